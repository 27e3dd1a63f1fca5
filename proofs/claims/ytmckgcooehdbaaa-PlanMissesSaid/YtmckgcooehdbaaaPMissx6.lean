-- PRINTED BY print.sh 35421559b90ae4d0a3588c463048766b98c2df88dd9212a6774a882060cdf62d: not written by this session
import Derived.Test.YtmckgcooehdbaaaPMissx0
namespace Go.Proofs.Ytmckgcooehdbaaa.PMiss
open Go.RowKit Go.Proofs.YtmckgcooehdbaaaW.PrintWords Go.Proofs.YtmckgcooehdbaaaW.PrintLast Go.Proofs.YtmckgcooehdbaaaW.PrintMore
attribute [local go_sem] max2_int min2_int max_two min_two max_three min_three max_four min_four   -- for this text's walks alone
set_option linter.unusedVariables false
set_option linter.unusedSimpArgs false

/-! ### cambiumref16_Small: function 18 -/
mutual
def cambiumref16_Small.j1 : Nat → Int → Int → Int → Int → ByteArray → ByteArray → Int → Int → Int → List (S69) → List (S71) → List (S74) → Option (Bool)
  | 0, _, _, _, _, _, _, _, _, _, _, _, _ => none
  | k + 1, x3, x280000, x280001, x280002, x280003, x280004, x280005, x280006, x280007, x280008, x280009, x280010 => cambiumref16_Small.l1 k x3 0 x280000 x280001 x280002 x280003 x280004 x280005 x280006 x280007 x280008 x280009 x280010
def cambiumref16_Small.l1 : Nat → Int → Int → Int → Int → Int → ByteArray → ByteArray → Int → Int → Int → List (S69) → List (S71) → List (S74) → Option (Bool)
  | 0, _, _, _, _, _, _, _, _, _, _, _, _, _ => none
  | k + 1, x3, x5, x280000, x280001, x280002, x280003, x280004, x280005, x280006, x280007, x280008, x280009, x280010 => if x5 < (x280009.length : Int) then (if x3 ≤ 6000 then (if 0 ≤ x5 then (cambiumref16_Small.l1 k (wrap64 ((wrap64 (x3 + 1)) + (((rd_T71 x280009 x5).f1).size : Int))) (wrap64 (x5 + 1)) x280000 x280001 x280002 x280003 x280004 x280005 x280006 x280007 x280008 x280009 x280010) else (none)) else (some (decide ((wrap64 (x3 + (x280010.length : Int))) ≤ 6000)))) else (some (decide ((wrap64 (x3 + (x280010.length : Int))) ≤ 6000)))
def cambiumref16_Small.l0 : Nat → Int → Int → Int → Int → Int → ByteArray → ByteArray → Int → Int → Int → List (S69) → List (S71) → List (S74) → Option (Bool)
  | 0, _, _, _, _, _, _, _, _, _, _, _, _, _ => none
  | k + 1, x3, x4, x280000, x280001, x280002, x280003, x280004, x280005, x280006, x280007, x280008, x280009, x280010 => if x4 < (x280008.length : Int) then (if x3 ≤ 6000 then (if 0 ≤ x4 then (cambiumref16_Small.l0 k (wrap64 ((wrap64 ((wrap64 (x3 + 1)) + (((rd_T69 x280008 x4).f0).size : Int))) + (((rd_T69 x280008 x4).f1.f1).size : Int))) (wrap64 (x4 + 1)) x280000 x280001 x280002 x280003 x280004 x280005 x280006 x280007 x280008 x280009 x280010) else (none)) else (cambiumref16_Small.j1 k x3 x280000 x280001 x280002 x280003 x280004 x280005 x280006 x280007 x280008 x280009 x280010)) else (cambiumref16_Small.j1 k x3 x280000 x280001 x280002 x280003 x280004 x280005 x280006 x280007 x280008 x280009 x280010)
end
def cambiumref16_Small.f (k : Nat) (a0_0 : Int) (a0_1 : Int) (a0_2 : Int) (a0_3 : ByteArray) (a0_4 : ByteArray) (a0_5 : Int) (a0_6 : Int) (a0_7 : Int) (l0_8 : List (S69)) (l0_9 : List (S71)) (l0_10 : List (S74)) : Option (Bool) := cambiumref16_Small.l0 k (wrap64 ((a0_3.size : Int) + (a0_4.size : Int))) 0 a0_0 a0_1 a0_2 a0_3 a0_4 a0_5 a0_6 a0_7 l0_8 l0_9 l0_10
theorem cambiumref16_Small.mono_l : ∀ k, (∀ y0 y1 y2 y3 y4 y5 y6 y7 y8 y9 y10 y11, LeO (cambiumref16_Small.j1 k y0 y1 y2 y3 y4 y5 y6 y7 y8 y9 y10 y11) (cambiumref16_Small.j1 (k + 1) y0 y1 y2 y3 y4 y5 y6 y7 y8 y9 y10 y11)) ∧ (∀ y0 y1 y2 y3 y4 y5 y6 y7 y8 y9 y10 y11 y12, LeO (cambiumref16_Small.l1 k y0 y1 y2 y3 y4 y5 y6 y7 y8 y9 y10 y11 y12) (cambiumref16_Small.l1 (k + 1) y0 y1 y2 y3 y4 y5 y6 y7 y8 y9 y10 y11 y12)) ∧ (∀ y0 y1 y2 y3 y4 y5 y6 y7 y8 y9 y10 y11 y12, LeO (cambiumref16_Small.l0 k y0 y1 y2 y3 y4 y5 y6 y7 y8 y9 y10 y11 y12) (cambiumref16_Small.l0 (k + 1) y0 y1 y2 y3 y4 y5 y6 y7 y8 y9 y10 y11 y12))
  | 0 => ⟨fun _ _ _ _ _ _ _ _ _ _ _ _ r h => by simp [cambiumref16_Small.j1] at h, fun _ _ _ _ _ _ _ _ _ _ _ _ _ r h => by simp [cambiumref16_Small.l1] at h, fun _ _ _ _ _ _ _ _ _ _ _ _ _ r h => by simp [cambiumref16_Small.l0] at h⟩
  | k + 1 => by
    obtain ⟨ih0, ih1, ih2⟩ := cambiumref16_Small.mono_l k
    refine ⟨?_, ?_, ?_⟩
    · intro y0 y1 y2 y3 y4 y5 y6 y7 y8 y9 y10 y11
      unfold cambiumref16_Small.j1
      repeat' first
      | (with_reducible exact ih0 _ _ _ _ _ _ _ _ _ _ _ _)
      | (with_reducible exact ih1 _ _ _ _ _ _ _ _ _ _ _ _ _)
      | (with_reducible exact ih2 _ _ _ _ _ _ _ _ _ _ _ _ _)
      | (with_reducible exact LeO.refl _)
      | (with_reducible exact LeO.none _)
      | (with_reducible refine LeO.ite ?_ ?_)
      | (with_reducible refine LeO.bind ?_ (fun _ => ?_))
      | exact ih0 _ _ _ _ _ _ _ _ _ _ _ _
      | exact ih1 _ _ _ _ _ _ _ _ _ _ _ _ _
      | exact ih2 _ _ _ _ _ _ _ _ _ _ _ _ _
      | exact LeO.none _
      | refine LeO.ite ?_ ?_
      | refine LeO.bind ?_ (fun _ => ?_)
    · intro y0 y1 y2 y3 y4 y5 y6 y7 y8 y9 y10 y11 y12
      unfold cambiumref16_Small.l1
      repeat' first
      | (with_reducible exact ih0 _ _ _ _ _ _ _ _ _ _ _ _)
      | (with_reducible exact ih1 _ _ _ _ _ _ _ _ _ _ _ _ _)
      | (with_reducible exact ih2 _ _ _ _ _ _ _ _ _ _ _ _ _)
      | (with_reducible exact LeO.refl _)
      | (with_reducible exact LeO.none _)
      | (with_reducible refine LeO.ite ?_ ?_)
      | (with_reducible refine LeO.bind ?_ (fun _ => ?_))
      | exact ih0 _ _ _ _ _ _ _ _ _ _ _ _
      | exact ih1 _ _ _ _ _ _ _ _ _ _ _ _ _
      | exact ih2 _ _ _ _ _ _ _ _ _ _ _ _ _
      | exact LeO.none _
      | refine LeO.ite ?_ ?_
      | refine LeO.bind ?_ (fun _ => ?_)
    · intro y0 y1 y2 y3 y4 y5 y6 y7 y8 y9 y10 y11 y12
      unfold cambiumref16_Small.l0
      repeat' first
      | (with_reducible exact ih0 _ _ _ _ _ _ _ _ _ _ _ _)
      | (with_reducible exact ih1 _ _ _ _ _ _ _ _ _ _ _ _ _)
      | (with_reducible exact ih2 _ _ _ _ _ _ _ _ _ _ _ _ _)
      | (with_reducible exact LeO.refl _)
      | (with_reducible exact LeO.none _)
      | (with_reducible refine LeO.ite ?_ ?_)
      | (with_reducible refine LeO.bind ?_ (fun _ => ?_))
      | exact ih0 _ _ _ _ _ _ _ _ _ _ _ _
      | exact ih1 _ _ _ _ _ _ _ _ _ _ _ _ _
      | exact ih2 _ _ _ _ _ _ _ _ _ _ _ _ _
      | exact LeO.none _
      | refine LeO.ite ?_ ?_
      | refine LeO.bind ?_ (fun _ => ?_)
theorem cambiumref16_Small.mono : ∀ a0 a1 a2 a3 a4 a5 a6 a7 a8 a9 a10 k, LeO (cambiumref16_Small.f k a0 a1 a2 a3 a4 a5 a6 a7 a8 a9 a10) (cambiumref16_Small.f (k + 1) a0 a1 a2 a3 a4 a5 a6 a7 a8 a9 a10) := by
  intro a0 a1 a2 a3 a4 a5 a6 a7 a8 a9 a10 k
  obtain ⟨ih0, ih1, ih2⟩ := cambiumref16_Small.mono_l k
  unfold cambiumref16_Small.f
  repeat' first
      | (with_reducible exact ih0 _ _ _ _ _ _ _ _ _ _ _ _)
      | (with_reducible exact ih1 _ _ _ _ _ _ _ _ _ _ _ _ _)
      | (with_reducible exact ih2 _ _ _ _ _ _ _ _ _ _ _ _ _)
      | (with_reducible exact LeO.refl _)
      | (with_reducible exact LeO.none _)
      | (with_reducible refine LeO.ite ?_ ?_)
      | (with_reducible refine LeO.bind ?_ (fun _ => ?_))
      | exact ih0 _ _ _ _ _ _ _ _ _ _ _ _
      | exact ih1 _ _ _ _ _ _ _ _ _ _ _ _ _
      | exact ih2 _ _ _ _ _ _ _ _ _ _ _ _ _
      | exact LeO.none _
      | refine LeO.ite ?_ ?_
      | refine LeO.bind ?_ (fun _ => ?_)
set_option maxHeartbeats 8000000 in
set_option maxRecDepth 100000 in
theorem cambiumref16_Small.calls (k : Nat) (a0_0 : Int) (a0_1 : Int) (a0_2 : Int) (a0_3 : ByteArray) (a0_4 : ByteArray) (a0_5 : Int) (a0_6 : Int) (a0_7 : Int) (A0_8 : Option Addr) (c0_8 : Nat) (l0_8 : List (S69)) (A0_9 : Option Addr) (c0_9 : Nat) (l0_9 : List (S71)) (A0_10 : Option Addr) (c0_10 : Nat) (l0_10 : List (S74)) (r : Bool) (w : World) (hr0_8 : Kd.C k69 w A0_8 l0_8.length l0_8) (hc0_8 : l0_8.length ≤ c0_8) (hr0_9 : Kd.C k71 w A0_9 l0_9.length l0_9) (hc0_9 : l0_9.length ≤ c0_9) (hr0_10 : Kd.C k74 w A0_10 l0_10.length l0_10) (hc0_10 : l0_10.length ≤ c0_10) (h : cambiumref16_Small.f k a0_0 a0_1 a0_2 a0_3 a0_4 a0_5 a0_6 a0_7 l0_8 l0_9 l0_10 = some r) :
    Calls Try.prog 18 #[.agg #[.int .u64 a0_0, .int .u64 a0_1, .int .u64 a0_2, .string a0_3, .string a0_4, .int .i64 a0_5, .int .i64 a0_6, .int .i64 a0_7, .slice A0_8 l0_8.length c0_8, .slice A0_9 l0_9.length c0_9, .slice A0_10 l0_10.length c0_10]] w fun e w' => e = .returned (.bool r) ∧ Below w.heap.size w w' := by
  have hu31 := Try.underlying31
  have HR0_8 := Aside0.mk hr0_8
  have HC0_8 := Aside0.mk hc0_8
  clear hr0_8 hc0_8
  have HR0_9 := Aside0.mk hr0_9
  have HC0_9 := Aside0.mk hc0_9
  clear hr0_9 hc0_9
  have HR0_10 := Aside0.mk hr0_10
  have HC0_10 := Aside0.mk hc0_10
  clear hr0_10 hc0_10
  have HB := Aside0.mk (Below.refl w.heap.size w)
  have H : (cambiumref16_Small.l0 k (wrap64 ((a0_3.size : Int) + (a0_4.size : Int))) 0 a0_0 a0_1 a0_2 a0_3 a0_4 a0_5 a0_6 a0_7 l0_8 l0_9 l0_10) = some r := h
  clear h
  have HC2 := Aside0.mk H
  clear H
  go_enter Try.func18, Try.ntmps18
  go_upto_block 0 with (first | ((with_reducible refine gate_dst (N := 1) rfl ?_); refine box_event ?hg (N := 1) ?hd (cs := #[.int .u64 a0_0, .int .u64 a0_1, .int .u64 a0_2, .string a0_3, .string a0_4, .int .i64 a0_5, .int .i64 a0_6, .int .i64 a0_7, .slice A0_8 l0_8.length c0_8, .slice A0_9 l0_9.length c0_9, .slice A0_10 l0_10.length c0_10]) (t := 31) ?hr ?_; (case hd => rfl); (case hg => rfl); (case hr => first | (go_simp; done) | (go_simp; rfl)); intro gb279 hg w3 hbox hb; have n0_ := Aside0.mk (below_step (by repeat (first | (with_reducible first | exact HB.out | apply below_alloc | apply pw_below_drewN | apply below_drew1) | exact HB.out)) hb); have n1_ := Aside0.mk (hbox); have n2_ := Aside0.mk ((by rw [hg]; exact (below_size (by repeat (first | (with_reducible first | exact HB.out | apply below_alloc | apply pw_below_drewN | apply below_drew1) | exact HB.out))) : w.heap.size ≤ gb279)); have n3_ := Aside0.mk ((by rw [hg]; exact (below_size (by repeat (first | (with_reducible first | exact HB.out | apply below_alloc | apply pw_below_drewN | apply below_drew1) | exact HB.out))) : w.heap.size ≤ gb279)); clear HB; have HB := n0_; have BK279 := n1_; have GW279 := n2_; have GE279 := n3_; clear n0_ n1_ n2_ n3_; clear hb hbox hg; have hcz4_0 : w3.cell? ⟨gb279, 0, none⟩ = some (.int .u64 a0_0) := (blk_cell BK279.out 0).trans rfl; have hcz4_1 : w3.cell? ⟨gb279, 1, none⟩ = some (.int .u64 a0_1) := (blk_cell BK279.out 1).trans rfl; have hcz4_2 : w3.cell? ⟨gb279, 2, none⟩ = some (.int .u64 a0_2) := (blk_cell BK279.out 2).trans rfl; have hcz4_3 : w3.cell? ⟨gb279, 3, none⟩ = some (.string a0_3) := (blk_cell BK279.out 3).trans rfl; have hcz4_4 : w3.cell? ⟨gb279, 4, none⟩ = some (.string a0_4) := (blk_cell BK279.out 4).trans rfl; have hcz4_5 : w3.cell? ⟨gb279, 5, none⟩ = some (.int .i64 a0_5) := (blk_cell BK279.out 5).trans rfl; have hcz4_6 : w3.cell? ⟨gb279, 6, none⟩ = some (.int .i64 a0_6) := (blk_cell BK279.out 6).trans rfl; have hcz4_7 : w3.cell? ⟨gb279, 7, none⟩ = some (.int .i64 a0_7) := (blk_cell BK279.out 7).trans rfl; have hcz4_8 : w3.cell? ⟨gb279, 8, none⟩ = some (.slice A0_8 l0_8.length c0_8) := (blk_cell BK279.out 8).trans rfl; have hcz4_9 : w3.cell? ⟨gb279, 9, none⟩ = some (.slice A0_9 l0_9.length c0_9) := (blk_cell BK279.out 9).trans rfl; have hcz4_10 : w3.cell? ⟨gb279, 10, none⟩ = some (.slice A0_10 l0_10.length c0_10) := (blk_cell BK279.out 10).trans rfl; have hfz4_0 := blk_frozen BK279.out 0; have hfz4_1 := blk_frozen BK279.out 1; have hfz4_2 := blk_frozen BK279.out 2; have hfz4_3 := blk_frozen BK279.out 3; have hfz4_4 := blk_frozen BK279.out 4; have hfz4_5 := blk_frozen BK279.out 5; have hfz4_6 := blk_frozen BK279.out 6; have hfz4_7 := blk_frozen BK279.out 7; have hfz4_8 := blk_frozen BK279.out 8; have hfz4_9 := blk_frozen BK279.out 9; have hfz4_10 := blk_frozen BK279.out 10))
  repeat (go_quiet (first | ((with_reducible refine gate_dst (N := 1) rfl ?_); refine box_event ?hg (N := 1) ?hd (cs := #[.int .u64 a0_0, .int .u64 a0_1, .int .u64 a0_2, .string a0_3, .string a0_4, .int .i64 a0_5, .int .i64 a0_6, .int .i64 a0_7, .slice A0_8 l0_8.length c0_8, .slice A0_9 l0_9.length c0_9, .slice A0_10 l0_10.length c0_10]) (t := 31) ?hr ?_; (case hd => rfl); (case hg => rfl); (case hr => first | (go_simp; done) | (go_simp; rfl)); intro gb279 hg w3 hbox hb; have n0_ := Aside0.mk (below_step (by repeat (first | (with_reducible first | exact HB.out | apply below_alloc | apply pw_below_drewN | apply below_drew1) | exact HB.out)) hb); have n1_ := Aside0.mk (hbox); have n2_ := Aside0.mk ((by rw [hg]; exact (below_size (by repeat (first | (with_reducible first | exact HB.out | apply below_alloc | apply pw_below_drewN | apply below_drew1) | exact HB.out))) : w.heap.size ≤ gb279)); have n3_ := Aside0.mk ((by rw [hg]; exact (below_size (by repeat (first | (with_reducible first | exact HB.out | apply below_alloc | apply pw_below_drewN | apply below_drew1) | exact HB.out))) : w.heap.size ≤ gb279)); clear HB; have HB := n0_; have BK279 := n1_; have GW279 := n2_; have GE279 := n3_; clear n0_ n1_ n2_ n3_; clear hb hbox hg; have hcz4_0 : w3.cell? ⟨gb279, 0, none⟩ = some (.int .u64 a0_0) := (blk_cell BK279.out 0).trans rfl; have hcz4_1 : w3.cell? ⟨gb279, 1, none⟩ = some (.int .u64 a0_1) := (blk_cell BK279.out 1).trans rfl; have hcz4_2 : w3.cell? ⟨gb279, 2, none⟩ = some (.int .u64 a0_2) := (blk_cell BK279.out 2).trans rfl; have hcz4_3 : w3.cell? ⟨gb279, 3, none⟩ = some (.string a0_3) := (blk_cell BK279.out 3).trans rfl; have hcz4_4 : w3.cell? ⟨gb279, 4, none⟩ = some (.string a0_4) := (blk_cell BK279.out 4).trans rfl; have hcz4_5 : w3.cell? ⟨gb279, 5, none⟩ = some (.int .i64 a0_5) := (blk_cell BK279.out 5).trans rfl; have hcz4_6 : w3.cell? ⟨gb279, 6, none⟩ = some (.int .i64 a0_6) := (blk_cell BK279.out 6).trans rfl; have hcz4_7 : w3.cell? ⟨gb279, 7, none⟩ = some (.int .i64 a0_7) := (blk_cell BK279.out 7).trans rfl; have hcz4_8 : w3.cell? ⟨gb279, 8, none⟩ = some (.slice A0_8 l0_8.length c0_8) := (blk_cell BK279.out 8).trans rfl; have hcz4_9 : w3.cell? ⟨gb279, 9, none⟩ = some (.slice A0_9 l0_9.length c0_9) := (blk_cell BK279.out 9).trans rfl; have hcz4_10 : w3.cell? ⟨gb279, 10, none⟩ = some (.slice A0_10 l0_10.length c0_10) := (blk_cell BK279.out 10).trans rfl; have hfz4_0 := blk_frozen BK279.out 0; have hfz4_1 := blk_frozen BK279.out 1; have hfz4_2 := blk_frozen BK279.out 2; have hfz4_3 := blk_frozen BK279.out 3; have hfz4_4 := blk_frozen BK279.out 4; have hfz4_5 := blk_frozen BK279.out 5; have hfz4_6 := blk_frozen BK279.out 6; have hfz4_7 := blk_frozen BK279.out 7; have hfz4_8 := blk_frozen BK279.out 8; have hfz4_9 := blk_frozen BK279.out 9; have hfz4_10 := blk_frozen BK279.out 10)); go_upto_block 0 with (first | ((with_reducible refine gate_dst (N := 1) rfl ?_); refine box_event ?hg (N := 1) ?hd (cs := #[.int .u64 a0_0, .int .u64 a0_1, .int .u64 a0_2, .string a0_3, .string a0_4, .int .i64 a0_5, .int .i64 a0_6, .int .i64 a0_7, .slice A0_8 l0_8.length c0_8, .slice A0_9 l0_9.length c0_9, .slice A0_10 l0_10.length c0_10]) (t := 31) ?hr ?_; (case hd => rfl); (case hg => rfl); (case hr => first | (go_simp; done) | (go_simp; rfl)); intro gb279 hg w3 hbox hb; have n0_ := Aside0.mk (below_step (by repeat (first | (with_reducible first | exact HB.out | apply below_alloc | apply pw_below_drewN | apply below_drew1) | exact HB.out)) hb); have n1_ := Aside0.mk (hbox); have n2_ := Aside0.mk ((by rw [hg]; exact (below_size (by repeat (first | (with_reducible first | exact HB.out | apply below_alloc | apply pw_below_drewN | apply below_drew1) | exact HB.out))) : w.heap.size ≤ gb279)); have n3_ := Aside0.mk ((by rw [hg]; exact (below_size (by repeat (first | (with_reducible first | exact HB.out | apply below_alloc | apply pw_below_drewN | apply below_drew1) | exact HB.out))) : w.heap.size ≤ gb279)); clear HB; have HB := n0_; have BK279 := n1_; have GW279 := n2_; have GE279 := n3_; clear n0_ n1_ n2_ n3_; clear hb hbox hg; have hcz4_0 : w3.cell? ⟨gb279, 0, none⟩ = some (.int .u64 a0_0) := (blk_cell BK279.out 0).trans rfl; have hcz4_1 : w3.cell? ⟨gb279, 1, none⟩ = some (.int .u64 a0_1) := (blk_cell BK279.out 1).trans rfl; have hcz4_2 : w3.cell? ⟨gb279, 2, none⟩ = some (.int .u64 a0_2) := (blk_cell BK279.out 2).trans rfl; have hcz4_3 : w3.cell? ⟨gb279, 3, none⟩ = some (.string a0_3) := (blk_cell BK279.out 3).trans rfl; have hcz4_4 : w3.cell? ⟨gb279, 4, none⟩ = some (.string a0_4) := (blk_cell BK279.out 4).trans rfl; have hcz4_5 : w3.cell? ⟨gb279, 5, none⟩ = some (.int .i64 a0_5) := (blk_cell BK279.out 5).trans rfl; have hcz4_6 : w3.cell? ⟨gb279, 6, none⟩ = some (.int .i64 a0_6) := (blk_cell BK279.out 6).trans rfl; have hcz4_7 : w3.cell? ⟨gb279, 7, none⟩ = some (.int .i64 a0_7) := (blk_cell BK279.out 7).trans rfl; have hcz4_8 : w3.cell? ⟨gb279, 8, none⟩ = some (.slice A0_8 l0_8.length c0_8) := (blk_cell BK279.out 8).trans rfl; have hcz4_9 : w3.cell? ⟨gb279, 9, none⟩ = some (.slice A0_9 l0_9.length c0_9) := (blk_cell BK279.out 9).trans rfl; have hcz4_10 : w3.cell? ⟨gb279, 10, none⟩ = some (.slice A0_10 l0_10.length c0_10) := (blk_cell BK279.out 10).trans rfl; have hfz4_0 := blk_frozen BK279.out 0; have hfz4_1 := blk_frozen BK279.out 1; have hfz4_2 := blk_frozen BK279.out 2; have hfz4_3 := blk_frozen BK279.out 3; have hfz4_4 := blk_frozen BK279.out 4; have hfz4_5 := blk_frozen BK279.out 5; have hfz4_6 := blk_frozen BK279.out 6; have hfz4_7 := blk_frozen BK279.out 7; have hfz4_8 := blk_frozen BK279.out 8; have hfz4_9 := blk_frozen BK279.out 9; have hfz4_10 := blk_frozen BK279.out 10)))
  (try simp only [Act.put, List.setIfInBounds_toArray, List.set_cons_zero, List.set_cons_succ])
  go_cut [3] (fun v3 wc => ∃ (kq : Nat) (x3_1 : Int), v3 = .int .i64 x3_1 ∧ Aside0 (cambiumref16_Small.j1 kq x3_1 a0_0 a0_1 a0_2 a0_3 a0_4 a0_5 a0_6 a0_7 l0_8 l0_9 l0_10 = some r) ∧ Aside0 (kq ≤ k) ∧ Aside0 (wc.heap[gb279]? = some (.cells #[.int .u64 a0_0, .int .u64 a0_1, .int .u64 a0_2, .string a0_3, .string a0_4, .int .i64 a0_5, .int .i64 a0_6, .int .i64 a0_7, (.slice A0_8 l0_8.length c0_8), (.slice A0_9 l0_9.length c0_9), (.slice A0_10 l0_10.length c0_10)] 31 (0, 0))) ∧ Aside0 (Below w.heap.size w wc))
  case first =>
    have H := HC2.out
    clear HC2
    have H' := Aside0.mk H
    clear H
    go_wp2
    repeat (go_quiet (fail); try go_wp2)
    go_loopg [3, 4] k (fun kq v3 v4 w' => ∃ (x3_1 : Int) (x4_1 : Int), v3 = .int .i64 x3_1 ∧ v4 = .int .i64 x4_1 ∧ Aside0 (cambiumref16_Small.l0 kq x3_1 x4_1 a0_0 a0_1 a0_2 a0_3 a0_4 a0_5 a0_6 a0_7 l0_8 l0_9 l0_10 = some r) ∧ Aside0 (kq ≤ k) ∧ Aside0 (w'.heap[gb279]? = some (.cells #[.int .u64 a0_0, .int .u64 a0_1, .int .u64 a0_2, .string a0_3, .string a0_4, .int .i64 a0_5, .int .i64 a0_6, .int .i64 a0_7, (.slice A0_8 l0_8.length c0_8), (.slice A0_9 l0_9.length c0_9), (.slice A0_10 l0_10.length c0_10)] 31 (0, 0))) ∧ Aside0 (Below w.heap.size w w'))
    case atStart => exact ⟨(wrap64 ((a0_3.size : Int) + (a0_4.size : Int))), (0), (by first | rfl | (simp; done) | (simp [*]; done)), (by first | rfl | (simp; done) | (simp [*]; done)), H', ⟨Nat.le_refl _⟩, ⟨by (with_reducible repeat (first | refine blk_drewN ?_ _ | refine blk_drew ?_ | refine blk_alloc ?_ _)); exact BK279.out⟩, ⟨by repeat (first | (with_reducible first | exact HB.out | apply below_alloc | apply pw_below_drewN | apply below_drew1 | refine below_set ?_ GE279.out) | exact HB.out)⟩⟩
    case round =>
      clear H'
      try clear c1
      try clear p2
      try clear hcz4_0
      try clear hcz4_1
      try clear hcz4_10
      try clear hcz4_2
      try clear hcz4_3
      try clear hcz4_4
      try clear hcz4_5
      try clear hcz4_6
      try clear hcz4_7
      try clear hcz4_8
      try clear hcz4_9
      try clear hfz4_0
      try clear hfz4_1
      try clear hfz4_10
      try clear hfz4_2
      try clear hfz4_3
      try clear hfz4_4
      try clear hfz4_5
      try clear hfz4_6
      try clear hfz4_7
      try clear hfz4_8
      try clear hfz4_9
      obtain ⟨x3_1, x4_1, rfl, rfl, HA, HK1, BK279, HB⟩ := hrel
      cases gk with
      | zero => exact absurd HA.out (by simp [cambiumref16_Small.l0])
      | succ k1 =>
        have H := HA.out
        clear HA
        simp only [cambiumref16_Small.l0] at H
        by_cases c5 : x4_1 < (l0_8.length : Int)
        · rw [if_pos c5] at H
          have c5b0 : decide (x4_1 < (l0_8.length : Int)) = true := decide_eq_true c5
          clear c5
          (first | rw [c5b0] | (simp only [i64_w, i32_w]; rw [c5b0]) | skip)
          by_cases c6 : x3_1 ≤ 6000
          · rw [if_pos c6] at H
            have c6b0 : decide (x3_1 ≤ 6000) = true := decide_eq_true c6
            clear c6
            by_cases c7 : 0 ≤ x4_1
            · rw [if_pos c7] at H
              have c7b0 : decide (0 ≤ x4_1) = true := decide_eq_true c7
              clear c7
              have H' := Aside0.mk H
              clear H
              have hcz8_0 : wr.cell? ⟨gb279, 0, none⟩ = some (.int .u64 a0_0) := (blk_cell BK279.out 0).trans rfl
              have hcz8_1 : wr.cell? ⟨gb279, 1, none⟩ = some (.int .u64 a0_1) := (blk_cell BK279.out 1).trans rfl
              have hcz8_2 : wr.cell? ⟨gb279, 2, none⟩ = some (.int .u64 a0_2) := (blk_cell BK279.out 2).trans rfl
              have hcz8_3 : wr.cell? ⟨gb279, 3, none⟩ = some (.string a0_3) := (blk_cell BK279.out 3).trans rfl
              have hcz8_4 : wr.cell? ⟨gb279, 4, none⟩ = some (.string a0_4) := (blk_cell BK279.out 4).trans rfl
              have hcz8_5 : wr.cell? ⟨gb279, 5, none⟩ = some (.int .i64 a0_5) := (blk_cell BK279.out 5).trans rfl
              have hcz8_6 : wr.cell? ⟨gb279, 6, none⟩ = some (.int .i64 a0_6) := (blk_cell BK279.out 6).trans rfl
              have hcz8_7 : wr.cell? ⟨gb279, 7, none⟩ = some (.int .i64 a0_7) := (blk_cell BK279.out 7).trans rfl
              have hcz8_8 : wr.cell? ⟨gb279, 8, none⟩ = some (.slice A0_8 l0_8.length c0_8) := (blk_cell BK279.out 8).trans rfl
              have hcz8_9 : wr.cell? ⟨gb279, 9, none⟩ = some (.slice A0_9 l0_9.length c0_9) := (blk_cell BK279.out 9).trans rfl
              have hcz8_10 : wr.cell? ⟨gb279, 10, none⟩ = some (.slice A0_10 l0_10.length c0_10) := (blk_cell BK279.out 10).trans rfl
              have hfz8_0 := blk_frozen BK279.out 0
              have hfz8_1 := blk_frozen BK279.out 1
              have hfz8_2 := blk_frozen BK279.out 2
              have hfz8_3 := blk_frozen BK279.out 3
              have hfz8_4 := blk_frozen BK279.out 4
              have hfz8_5 := blk_frozen BK279.out 5
              have hfz8_6 := blk_frozen BK279.out 6
              have hfz8_7 := blk_frozen BK279.out 7
              have hfz8_8 := blk_frozen BK279.out 8
              have hfz8_9 := blk_frozen BK279.out 9
              have hfz8_10 := blk_frozen BK279.out 10
              have p280 : 0 ≤ (x4_1 : Int) := of_decide_eq_true (by first | (with_reducible assumption) | assumption)
              have q280 : x4_1 < (l0_8.length : Int) := of_decide_eq_true (by first | (with_reducible assumption) | assumption)
              obtain ⟨ad280, e280, hx280_0, hx280_1, hx280_2, hx280_3, hx280_4⟩ := at_T69 HR0_8.out x4_1 p280 q280
              cases e280
              replace hx280_0 := (HB.out.cell (World.block_lt_of_cell? w _ hx280_0)).trans hx280_0
              replace hx280_1 := (HB.out.cell (World.block_lt_of_cell? w _ hx280_1)).trans hx280_1
              replace hx280_2 := (HB.out.cell (World.block_lt_of_cell? w _ hx280_2)).trans hx280_2
              replace hx280_3 := (HB.out.cell (World.block_lt_of_cell? w _ hx280_3)).trans hx280_3
              replace hx280_4 := (HB.out.cell (World.block_lt_of_cell? w _ hx280_4)).trans hx280_4
              replace p280 := eq_true p280
              replace q280 := eq_true q280
              have p281 : 0 ≤ (x4_1 : Int) := of_decide_eq_true (by first | (with_reducible assumption) | assumption)
              have q281 : x4_1 < (l0_8.length : Int) := of_decide_eq_true (by first | (with_reducible assumption) | assumption)
              obtain ⟨ad281, e281, hx281_0, hx281_1, hx281_2, hx281_3, hx281_4⟩ := at_T69 HR0_8.out x4_1 p281 q281
              obtain rfl : ad280 = ad281 := (by injection e281)
              replace hx281_0 := (HB.out.cell (World.block_lt_of_cell? w _ hx281_0)).trans hx281_0
              replace hx281_1 := (HB.out.cell (World.block_lt_of_cell? w _ hx281_1)).trans hx281_1
              replace hx281_2 := (HB.out.cell (World.block_lt_of_cell? w _ hx281_2)).trans hx281_2
              replace hx281_3 := (HB.out.cell (World.block_lt_of_cell? w _ hx281_3)).trans hx281_3
              replace hx281_4 := (HB.out.cell (World.block_lt_of_cell? w _ hx281_4)).trans hx281_4
              replace p281 := eq_true p281
              replace q281 := eq_true q281
              go_wp2
              repeat (go_quiet (fail); try go_wp2)
              go_roundg k1
              case measure => have := HK1.out; omega
              case rel => exact ⟨(wrap64 ((wrap64 ((wrap64 (x3_1 + 1)) + (((rd_T69 l0_8 x4_1).f0).size : Int))) + (((rd_T69 l0_8 x4_1).f1.f1).size : Int))), (wrap64 (x4_1 + 1)), (by first | rfl | (simp; done) | (simp [*]; done)), (by first | rfl | (simp; done) | (simp [*]; done)), H', ⟨by have := HK1.out; omega⟩, ⟨by (with_reducible repeat (first | refine blk_drewN ?_ _ | refine blk_drew ?_ | refine blk_alloc ?_ _)); exact BK279.out⟩, ⟨by repeat (first | (with_reducible first | exact HB.out | apply below_alloc | apply pw_below_drewN | apply below_drew1 | refine below_set ?_ GE279.out) | exact HB.out)⟩⟩
            · rw [if_neg c7] at H
              exact absurd H (by simp)
          · rw [if_neg c6] at H
            have c6b0 : decide (x3_1 ≤ 6000) = false := decide_eq_false c6
            clear c6
            have H' := Aside0.mk H
            clear H
            have hcz9_0 : wr.cell? ⟨gb279, 0, none⟩ = some (.int .u64 a0_0) := (blk_cell BK279.out 0).trans rfl
            have hcz9_1 : wr.cell? ⟨gb279, 1, none⟩ = some (.int .u64 a0_1) := (blk_cell BK279.out 1).trans rfl
            have hcz9_2 : wr.cell? ⟨gb279, 2, none⟩ = some (.int .u64 a0_2) := (blk_cell BK279.out 2).trans rfl
            have hcz9_3 : wr.cell? ⟨gb279, 3, none⟩ = some (.string a0_3) := (blk_cell BK279.out 3).trans rfl
            have hcz9_4 : wr.cell? ⟨gb279, 4, none⟩ = some (.string a0_4) := (blk_cell BK279.out 4).trans rfl
            have hcz9_5 : wr.cell? ⟨gb279, 5, none⟩ = some (.int .i64 a0_5) := (blk_cell BK279.out 5).trans rfl
            have hcz9_6 : wr.cell? ⟨gb279, 6, none⟩ = some (.int .i64 a0_6) := (blk_cell BK279.out 6).trans rfl
            have hcz9_7 : wr.cell? ⟨gb279, 7, none⟩ = some (.int .i64 a0_7) := (blk_cell BK279.out 7).trans rfl
            have hcz9_8 : wr.cell? ⟨gb279, 8, none⟩ = some (.slice A0_8 l0_8.length c0_8) := (blk_cell BK279.out 8).trans rfl
            have hcz9_9 : wr.cell? ⟨gb279, 9, none⟩ = some (.slice A0_9 l0_9.length c0_9) := (blk_cell BK279.out 9).trans rfl
            have hcz9_10 : wr.cell? ⟨gb279, 10, none⟩ = some (.slice A0_10 l0_10.length c0_10) := (blk_cell BK279.out 10).trans rfl
            have hfz9_0 := blk_frozen BK279.out 0
            have hfz9_1 := blk_frozen BK279.out 1
            have hfz9_2 := blk_frozen BK279.out 2
            have hfz9_3 := blk_frozen BK279.out 3
            have hfz9_4 := blk_frozen BK279.out 4
            have hfz9_5 := blk_frozen BK279.out 5
            have hfz9_6 := blk_frozen BK279.out 6
            have hfz9_7 := blk_frozen BK279.out 7
            have hfz9_8 := blk_frozen BK279.out 8
            have hfz9_9 := blk_frozen BK279.out 9
            have hfz9_10 := blk_frozen BK279.out 10
            go_wp2
            repeat (go_quiet (fail); try go_wp2)
            go_meet
            case rel => exact ⟨_, (x3_1), (by first | rfl | (simp; done) | (simp [*]; done)), H', ⟨by have := HK1.out; first | omega | exact Nat.le_refl _⟩, ⟨by (with_reducible repeat (first | refine blk_drewN ?_ _ | refine blk_drew ?_ | refine blk_alloc ?_ _)); exact BK279.out⟩, ⟨by repeat (first | (with_reducible first | exact HB.out | apply below_alloc | apply pw_below_drewN | apply below_drew1 | refine below_set ?_ GE279.out) | exact HB.out)⟩⟩
        · rw [if_neg c5] at H
          have c5b0 : decide (x4_1 < (l0_8.length : Int)) = false := decide_eq_false c5
          clear c5
          (first | rw [c5b0] | (simp only [i64_w, i32_w]; rw [c5b0]) | skip)
          have H' := Aside0.mk H
          clear H
          have hcz10_0 : wr.cell? ⟨gb279, 0, none⟩ = some (.int .u64 a0_0) := (blk_cell BK279.out 0).trans rfl
          have hcz10_1 : wr.cell? ⟨gb279, 1, none⟩ = some (.int .u64 a0_1) := (blk_cell BK279.out 1).trans rfl
          have hcz10_2 : wr.cell? ⟨gb279, 2, none⟩ = some (.int .u64 a0_2) := (blk_cell BK279.out 2).trans rfl
          have hcz10_3 : wr.cell? ⟨gb279, 3, none⟩ = some (.string a0_3) := (blk_cell BK279.out 3).trans rfl
          have hcz10_4 : wr.cell? ⟨gb279, 4, none⟩ = some (.string a0_4) := (blk_cell BK279.out 4).trans rfl
          have hcz10_5 : wr.cell? ⟨gb279, 5, none⟩ = some (.int .i64 a0_5) := (blk_cell BK279.out 5).trans rfl
          have hcz10_6 : wr.cell? ⟨gb279, 6, none⟩ = some (.int .i64 a0_6) := (blk_cell BK279.out 6).trans rfl
          have hcz10_7 : wr.cell? ⟨gb279, 7, none⟩ = some (.int .i64 a0_7) := (blk_cell BK279.out 7).trans rfl
          have hcz10_8 : wr.cell? ⟨gb279, 8, none⟩ = some (.slice A0_8 l0_8.length c0_8) := (blk_cell BK279.out 8).trans rfl
          have hcz10_9 : wr.cell? ⟨gb279, 9, none⟩ = some (.slice A0_9 l0_9.length c0_9) := (blk_cell BK279.out 9).trans rfl
          have hcz10_10 : wr.cell? ⟨gb279, 10, none⟩ = some (.slice A0_10 l0_10.length c0_10) := (blk_cell BK279.out 10).trans rfl
          have hfz10_0 := blk_frozen BK279.out 0
          have hfz10_1 := blk_frozen BK279.out 1
          have hfz10_2 := blk_frozen BK279.out 2
          have hfz10_3 := blk_frozen BK279.out 3
          have hfz10_4 := blk_frozen BK279.out 4
          have hfz10_5 := blk_frozen BK279.out 5
          have hfz10_6 := blk_frozen BK279.out 6
          have hfz10_7 := blk_frozen BK279.out 7
          have hfz10_8 := blk_frozen BK279.out 8
          have hfz10_9 := blk_frozen BK279.out 9
          have hfz10_10 := blk_frozen BK279.out 10
          go_wp2
          repeat (go_quiet (fail); try go_wp2)
          go_meet
          case rel => exact ⟨_, (x3_1), (by first | rfl | (simp; done) | (simp [*]; done)), H', ⟨by have := HK1.out; first | omega | exact Nat.le_refl _⟩, ⟨by (with_reducible repeat (first | refine blk_drewN ?_ _ | refine blk_drew ?_ | refine blk_alloc ?_ _)); exact BK279.out⟩, ⟨by repeat (first | (with_reducible first | exact HB.out | apply below_alloc | apply pw_below_drewN | apply below_drew1 | refine below_set ?_ GE279.out) | exact HB.out)⟩⟩
  case rest =>
    clear HC2
    try clear c1
    try clear p2
    try clear q2
    try clear hx2
    try clear c5
    try clear c5b0
    try clear c6
    try clear c6b0
    try clear p6
    try clear c7
    try clear c7b0
    try clear hcz10_0
    try clear hcz10_1
    try clear hcz10_10
    try clear hcz10_2
    try clear hcz10_3
    try clear hcz10_4
    try clear hcz10_5
    try clear hcz10_6
    try clear hcz10_7
    try clear hcz10_8
    try clear hcz10_9
    try clear hcz4_0
    try clear hcz4_1
    try clear hcz4_10
    try clear hcz4_2
    try clear hcz4_3
    try clear hcz4_4
    try clear hcz4_5
    try clear hcz4_6
    try clear hcz4_7
    try clear hcz4_8
    try clear hcz4_9
    try clear hcz8_0
    try clear hcz8_1
    try clear hcz8_10
    try clear hcz8_2
    try clear hcz8_3
    try clear hcz8_4
    try clear hcz8_5
    try clear hcz8_6
    try clear hcz8_7
    try clear hcz8_8
    try clear hcz8_9
    try clear hcz9_0
    try clear hcz9_1
    try clear hcz9_10
    try clear hcz9_2
    try clear hcz9_3
    try clear hcz9_4
    try clear hcz9_5
    try clear hcz9_6
    try clear hcz9_7
    try clear hcz9_8
    try clear hcz9_9
    try clear hfz10_0
    try clear hfz10_1
    try clear hfz10_10
    try clear hfz10_2
    try clear hfz10_3
    try clear hfz10_4
    try clear hfz10_5
    try clear hfz10_6
    try clear hfz10_7
    try clear hfz10_8
    try clear hfz10_9
    try clear hfz4_0
    try clear hfz4_1
    try clear hfz4_10
    try clear hfz4_2
    try clear hfz4_3
    try clear hfz4_4
    try clear hfz4_5
    try clear hfz4_6
    try clear hfz4_7
    try clear hfz4_8
    try clear hfz4_9
    try clear hfz8_0
    try clear hfz8_1
    try clear hfz8_10
    try clear hfz8_2
    try clear hfz8_3
    try clear hfz8_4
    try clear hfz8_5
    try clear hfz8_6
    try clear hfz8_7
    try clear hfz8_8
    try clear hfz8_9
    try clear hfz9_0
    try clear hfz9_1
    try clear hfz9_10
    try clear hfz9_2
    try clear hfz9_3
    try clear hfz9_4
    try clear hfz9_5
    try clear hfz9_6
    try clear hfz9_7
    try clear hfz9_8
    try clear hfz9_9
    try clear hx280_0
    try clear hx280_1
    try clear hx280_2
    try clear hx280_3
    try clear hx280_4
    try clear hx281_0
    try clear hx281_1
    try clear hx281_2
    try clear hx281_3
    try clear hx281_4
    try clear p2
    try clear p280
    try clear p281
    try clear q280
    try clear q281
    obtain ⟨kq, x3_1, rfl, HA, HJ1, BK279, HB⟩ := hcut
    cases kq with
    | zero => exact absurd HA.out (by simp [cambiumref16_Small.j1])
    | succ kj1 =>
      have H := HA.out
      clear HA
      simp only [cambiumref16_Small.j1] at H
      have H' := Aside0.mk H
      clear H
      go_wp2
      repeat (go_quiet (fail); try go_wp2)
      go_loopg [3, 5] kj1 (fun kq v3 v5 w' => ∃ (x3_2 : Int) (x5_2 : Int), v3 = .int .i64 x3_2 ∧ v5 = .int .i64 x5_2 ∧ Aside0 (cambiumref16_Small.l1 kq x3_2 x5_2 a0_0 a0_1 a0_2 a0_3 a0_4 a0_5 a0_6 a0_7 l0_8 l0_9 l0_10 = some r) ∧ Aside0 (kq ≤ kj1) ∧ Aside0 (w'.heap[gb279]? = some (.cells #[.int .u64 a0_0, .int .u64 a0_1, .int .u64 a0_2, .string a0_3, .string a0_4, .int .i64 a0_5, .int .i64 a0_6, .int .i64 a0_7, (.slice A0_8 l0_8.length c0_8), (.slice A0_9 l0_9.length c0_9), (.slice A0_10 l0_10.length c0_10)] 31 (0, 0))) ∧ Aside0 (Below w.heap.size w w'))
      case atStart => exact ⟨(x3_1), (0), (by first | rfl | (simp; done) | (simp [*]; done)), (by first | rfl | (simp; done) | (simp [*]; done)), H', ⟨Nat.le_refl _⟩, ⟨by (with_reducible repeat (first | refine blk_drewN ?_ _ | refine blk_drew ?_ | refine blk_alloc ?_ _)); exact BK279.out⟩, ⟨by repeat (first | (with_reducible first | exact HB.out | apply below_alloc | apply pw_below_drewN | apply below_drew1 | refine below_set ?_ GE279.out) | exact HB.out)⟩⟩
      case round =>
        clear H'
        try clear c1
        try clear p2
        try clear q2
        try clear hx2
        try clear c5
        try clear c5b0
        try clear c6
        try clear c6b0
        try clear p6
        try clear c7
        try clear c7b0
        try clear hcz10_0
        try clear hcz10_1
        try clear hcz10_10
        try clear hcz10_2
        try clear hcz10_3
        try clear hcz10_4
        try clear hcz10_5
        try clear hcz10_6
        try clear hcz10_7
        try clear hcz10_8
        try clear hcz10_9
        try clear hcz4_0
        try clear hcz4_1
        try clear hcz4_10
        try clear hcz4_2
        try clear hcz4_3
        try clear hcz4_4
        try clear hcz4_5
        try clear hcz4_6
        try clear hcz4_7
        try clear hcz4_8
        try clear hcz4_9
        try clear hcz8_0
        try clear hcz8_1
        try clear hcz8_10
        try clear hcz8_2
        try clear hcz8_3
        try clear hcz8_4
        try clear hcz8_5
        try clear hcz8_6
        try clear hcz8_7
        try clear hcz8_8
        try clear hcz8_9
        try clear hcz9_0
        try clear hcz9_1
        try clear hcz9_10
        try clear hcz9_2
        try clear hcz9_3
        try clear hcz9_4
        try clear hcz9_5
        try clear hcz9_6
        try clear hcz9_7
        try clear hcz9_8
        try clear hcz9_9
        try clear hfz10_0
        try clear hfz10_1
        try clear hfz10_10
        try clear hfz10_2
        try clear hfz10_3
        try clear hfz10_4
        try clear hfz10_5
        try clear hfz10_6
        try clear hfz10_7
        try clear hfz10_8
        try clear hfz10_9
        try clear hfz4_0
        try clear hfz4_1
        try clear hfz4_10
        try clear hfz4_2
        try clear hfz4_3
        try clear hfz4_4
        try clear hfz4_5
        try clear hfz4_6
        try clear hfz4_7
        try clear hfz4_8
        try clear hfz4_9
        try clear hfz8_0
        try clear hfz8_1
        try clear hfz8_10
        try clear hfz8_2
        try clear hfz8_3
        try clear hfz8_4
        try clear hfz8_5
        try clear hfz8_6
        try clear hfz8_7
        try clear hfz8_8
        try clear hfz8_9
        try clear hfz9_0
        try clear hfz9_1
        try clear hfz9_10
        try clear hfz9_2
        try clear hfz9_3
        try clear hfz9_4
        try clear hfz9_5
        try clear hfz9_6
        try clear hfz9_7
        try clear hfz9_8
        try clear hfz9_9
        try clear hx280_0
        try clear hx280_1
        try clear hx280_2
        try clear hx280_3
        try clear hx280_4
        try clear hx281_0
        try clear hx281_1
        try clear hx281_2
        try clear hx281_3
        try clear hx281_4
        try clear p2
        try clear p280
        try clear p281
        try clear p6
        try clear q2
        try clear q280
        try clear q281
        obtain ⟨x3_2, x5_2, rfl, rfl, HA, HK2, BK279, HB⟩ := hrel
        cases gk with
        | zero => exact absurd HA.out (by simp [cambiumref16_Small.l1])
        | succ k2 =>
          have H := HA.out
          clear HA
          simp only [cambiumref16_Small.l1] at H
          by_cases c11 : x5_2 < (l0_9.length : Int)
          · rw [if_pos c11] at H
            have c11b0 : decide (x5_2 < (l0_9.length : Int)) = true := decide_eq_true c11
            clear c11
            by_cases c12 : x3_2 ≤ 6000
            · rw [if_pos c12] at H
              have c12b0 : decide (x3_2 ≤ 6000) = true := decide_eq_true c12
              clear c12
              by_cases c13 : 0 ≤ x5_2
              · rw [if_pos c13] at H
                have c13b0 : decide (0 ≤ x5_2) = true := decide_eq_true c13
                clear c13
                have H' := Aside0.mk H
                clear H
                have hcz14_0 : wr.cell? ⟨gb279, 0, none⟩ = some (.int .u64 a0_0) := (blk_cell BK279.out 0).trans rfl
                have hcz14_1 : wr.cell? ⟨gb279, 1, none⟩ = some (.int .u64 a0_1) := (blk_cell BK279.out 1).trans rfl
                have hcz14_2 : wr.cell? ⟨gb279, 2, none⟩ = some (.int .u64 a0_2) := (blk_cell BK279.out 2).trans rfl
                have hcz14_3 : wr.cell? ⟨gb279, 3, none⟩ = some (.string a0_3) := (blk_cell BK279.out 3).trans rfl
                have hcz14_4 : wr.cell? ⟨gb279, 4, none⟩ = some (.string a0_4) := (blk_cell BK279.out 4).trans rfl
                have hcz14_5 : wr.cell? ⟨gb279, 5, none⟩ = some (.int .i64 a0_5) := (blk_cell BK279.out 5).trans rfl
                have hcz14_6 : wr.cell? ⟨gb279, 6, none⟩ = some (.int .i64 a0_6) := (blk_cell BK279.out 6).trans rfl
                have hcz14_7 : wr.cell? ⟨gb279, 7, none⟩ = some (.int .i64 a0_7) := (blk_cell BK279.out 7).trans rfl
                have hcz14_8 : wr.cell? ⟨gb279, 8, none⟩ = some (.slice A0_8 l0_8.length c0_8) := (blk_cell BK279.out 8).trans rfl
                have hcz14_9 : wr.cell? ⟨gb279, 9, none⟩ = some (.slice A0_9 l0_9.length c0_9) := (blk_cell BK279.out 9).trans rfl
                have hcz14_10 : wr.cell? ⟨gb279, 10, none⟩ = some (.slice A0_10 l0_10.length c0_10) := (blk_cell BK279.out 10).trans rfl
                have hfz14_0 := blk_frozen BK279.out 0
                have hfz14_1 := blk_frozen BK279.out 1
                have hfz14_2 := blk_frozen BK279.out 2
                have hfz14_3 := blk_frozen BK279.out 3
                have hfz14_4 := blk_frozen BK279.out 4
                have hfz14_5 := blk_frozen BK279.out 5
                have hfz14_6 := blk_frozen BK279.out 6
                have hfz14_7 := blk_frozen BK279.out 7
                have hfz14_8 := blk_frozen BK279.out 8
                have hfz14_9 := blk_frozen BK279.out 9
                have hfz14_10 := blk_frozen BK279.out 10
                have p282 : 0 ≤ (x5_2 : Int) := of_decide_eq_true (by first | (with_reducible assumption) | assumption)
                have q282 : x5_2 < (l0_9.length : Int) := of_decide_eq_true (by first | (with_reducible assumption) | assumption)
                obtain ⟨ad282, e282, hx282_0, hx282_1⟩ := at_T71 HR0_9.out x5_2 p282 q282
                cases e282
                replace hx282_0 := (HB.out.cell (World.block_lt_of_cell? w _ hx282_0)).trans hx282_0
                replace hx282_1 := (HB.out.cell (World.block_lt_of_cell? w _ hx282_1)).trans hx282_1
                replace p282 := eq_true p282
                replace q282 := eq_true q282
                go_wp2
                repeat (go_quiet (fail); try go_wp2)
                go_roundg k2
                case measure => have := HJ1.out; have := HK2.out; omega
                case rel => exact ⟨(wrap64 ((wrap64 (x3_2 + 1)) + (((rd_T71 l0_9 x5_2).f1).size : Int))), (wrap64 (x5_2 + 1)), (by first | rfl | (simp; done) | (simp [*]; done)), (by first | rfl | (simp; done) | (simp [*]; done)), H', ⟨by have := HJ1.out; have := HK2.out; omega⟩, ⟨by (with_reducible repeat (first | refine blk_drewN ?_ _ | refine blk_drew ?_ | refine blk_alloc ?_ _)); exact BK279.out⟩, ⟨by repeat (first | (with_reducible first | exact HB.out | apply below_alloc | apply pw_below_drewN | apply below_drew1 | refine below_set ?_ GE279.out) | exact HB.out)⟩⟩
              · rw [if_neg c13] at H
                exact absurd H (by simp)
            · rw [if_neg c12] at H
              have c12b0 : decide (x3_2 ≤ 6000) = false := decide_eq_false c12
              clear c12
              obtain rfl := Option.some.inj H
              have hcz15_0 : wr.cell? ⟨gb279, 0, none⟩ = some (.int .u64 a0_0) := (blk_cell BK279.out 0).trans rfl
              have hcz15_1 : wr.cell? ⟨gb279, 1, none⟩ = some (.int .u64 a0_1) := (blk_cell BK279.out 1).trans rfl
              have hcz15_2 : wr.cell? ⟨gb279, 2, none⟩ = some (.int .u64 a0_2) := (blk_cell BK279.out 2).trans rfl
              have hcz15_3 : wr.cell? ⟨gb279, 3, none⟩ = some (.string a0_3) := (blk_cell BK279.out 3).trans rfl
              have hcz15_4 : wr.cell? ⟨gb279, 4, none⟩ = some (.string a0_4) := (blk_cell BK279.out 4).trans rfl
              have hcz15_5 : wr.cell? ⟨gb279, 5, none⟩ = some (.int .i64 a0_5) := (blk_cell BK279.out 5).trans rfl
              have hcz15_6 : wr.cell? ⟨gb279, 6, none⟩ = some (.int .i64 a0_6) := (blk_cell BK279.out 6).trans rfl
              have hcz15_7 : wr.cell? ⟨gb279, 7, none⟩ = some (.int .i64 a0_7) := (blk_cell BK279.out 7).trans rfl
              have hcz15_8 : wr.cell? ⟨gb279, 8, none⟩ = some (.slice A0_8 l0_8.length c0_8) := (blk_cell BK279.out 8).trans rfl
              have hcz15_9 : wr.cell? ⟨gb279, 9, none⟩ = some (.slice A0_9 l0_9.length c0_9) := (blk_cell BK279.out 9).trans rfl
              have hcz15_10 : wr.cell? ⟨gb279, 10, none⟩ = some (.slice A0_10 l0_10.length c0_10) := (blk_cell BK279.out 10).trans rfl
              have hfz15_0 := blk_frozen BK279.out 0
              have hfz15_1 := blk_frozen BK279.out 1
              have hfz15_2 := blk_frozen BK279.out 2
              have hfz15_3 := blk_frozen BK279.out 3
              have hfz15_4 := blk_frozen BK279.out 4
              have hfz15_5 := blk_frozen BK279.out 5
              have hfz15_6 := blk_frozen BK279.out 6
              have hfz15_7 := blk_frozen BK279.out 7
              have hfz15_8 := blk_frozen BK279.out 8
              have hfz15_9 := blk_frozen BK279.out 9
              have hfz15_10 := blk_frozen BK279.out 10
              go_wp2
              repeat (go_quiet (fail); try go_wp2)
              go_ret
              exact ⟨by first | rfl | (simp [errW_none, errW_some] <;> rfl) | (simp [*, errW_none, errW_some] <;> rfl), by repeat (first | (with_reducible first | exact HB.out | apply below_alloc | apply pw_below_drewN | apply below_drew1 | refine below_set ?_ GE279.out) | exact HB.out)⟩
          · rw [if_neg c11] at H
            have c11b0 : decide (x5_2 < (l0_9.length : Int)) = false := decide_eq_false c11
            clear c11
            obtain rfl := Option.some.inj H
            have hcz16_0 : wr.cell? ⟨gb279, 0, none⟩ = some (.int .u64 a0_0) := (blk_cell BK279.out 0).trans rfl
            have hcz16_1 : wr.cell? ⟨gb279, 1, none⟩ = some (.int .u64 a0_1) := (blk_cell BK279.out 1).trans rfl
            have hcz16_2 : wr.cell? ⟨gb279, 2, none⟩ = some (.int .u64 a0_2) := (blk_cell BK279.out 2).trans rfl
            have hcz16_3 : wr.cell? ⟨gb279, 3, none⟩ = some (.string a0_3) := (blk_cell BK279.out 3).trans rfl
            have hcz16_4 : wr.cell? ⟨gb279, 4, none⟩ = some (.string a0_4) := (blk_cell BK279.out 4).trans rfl
            have hcz16_5 : wr.cell? ⟨gb279, 5, none⟩ = some (.int .i64 a0_5) := (blk_cell BK279.out 5).trans rfl
            have hcz16_6 : wr.cell? ⟨gb279, 6, none⟩ = some (.int .i64 a0_6) := (blk_cell BK279.out 6).trans rfl
            have hcz16_7 : wr.cell? ⟨gb279, 7, none⟩ = some (.int .i64 a0_7) := (blk_cell BK279.out 7).trans rfl
            have hcz16_8 : wr.cell? ⟨gb279, 8, none⟩ = some (.slice A0_8 l0_8.length c0_8) := (blk_cell BK279.out 8).trans rfl
            have hcz16_9 : wr.cell? ⟨gb279, 9, none⟩ = some (.slice A0_9 l0_9.length c0_9) := (blk_cell BK279.out 9).trans rfl
            have hcz16_10 : wr.cell? ⟨gb279, 10, none⟩ = some (.slice A0_10 l0_10.length c0_10) := (blk_cell BK279.out 10).trans rfl
            have hfz16_0 := blk_frozen BK279.out 0
            have hfz16_1 := blk_frozen BK279.out 1
            have hfz16_2 := blk_frozen BK279.out 2
            have hfz16_3 := blk_frozen BK279.out 3
            have hfz16_4 := blk_frozen BK279.out 4
            have hfz16_5 := blk_frozen BK279.out 5
            have hfz16_6 := blk_frozen BK279.out 6
            have hfz16_7 := blk_frozen BK279.out 7
            have hfz16_8 := blk_frozen BK279.out 8
            have hfz16_9 := blk_frozen BK279.out 9
            have hfz16_10 := blk_frozen BK279.out 10
            go_wp2
            repeat (go_quiet (fail); try go_wp2)
            go_ret
            exact ⟨by first | rfl | (simp [errW_none, errW_some] <;> rfl) | (simp [*, errW_none, errW_some] <;> rfl), by repeat (first | (with_reducible first | exact HB.out | apply below_alloc | apply pw_below_drewN | apply below_drew1 | refine below_set ?_ GE279.out) | exact HB.out)⟩

/-! ### cambiumref01_Less: function 13 -/
mutual
def cambiumref01_Less.l0 : Nat → List Int → List Int → Int → Option (Bool)
  | 0, _, _, _ => none
  | k + 1, x0, x1, x5 => if x5 < (x0.length : Int) then (cambiumref01_Less.j1 k x0 x1 x5 (decide (x5 < (x1.length : Int)))) else (cambiumref01_Less.j1 k x0 x1 x5 false)
def cambiumref01_Less.j1 : Nat → List Int → List Int → Int → Bool → Option (Bool)
  | 0, _, _, _, _ => none
  | k + 1, x0, x1, x5, x15 => if x15 = true then (if 0 ≤ x5 then (if x5 < (x0.length : Int) then (if x5 < (x1.length : Int) then (if (rd x0 x5) = (rd x1 x5) then (cambiumref01_Less.l0 k x0 x1 (wrap64 (x5 + 1))) else (some (decide ((rd x0 x5) < (rd x1 x5))))) else (none)) else (none)) else (none)) else (some (decide ((x0.length : Int) < (x1.length : Int))))
end
def cambiumref01_Less.f (k : Nat) (l0 : List Int) (l1 : List Int) : Option (Bool) := cambiumref01_Less.l0 k l0 l1 0
theorem cambiumref01_Less.mono_l : ∀ k, (∀ y0 y1 y2, LeO (cambiumref01_Less.l0 k y0 y1 y2) (cambiumref01_Less.l0 (k + 1) y0 y1 y2)) ∧ (∀ y0 y1 y2 y3, LeO (cambiumref01_Less.j1 k y0 y1 y2 y3) (cambiumref01_Less.j1 (k + 1) y0 y1 y2 y3))
  | 0 => ⟨fun _ _ _ r h => by simp [cambiumref01_Less.l0] at h, fun _ _ _ _ r h => by simp [cambiumref01_Less.j1] at h⟩
  | k + 1 => by
    obtain ⟨ih0, ih1⟩ := cambiumref01_Less.mono_l k
    refine ⟨?_, ?_⟩
    · intro y0 y1 y2
      unfold cambiumref01_Less.l0
      repeat' first
      | (with_reducible exact ih0 _ _ _)
      | (with_reducible exact ih1 _ _ _ _)
      | (with_reducible exact LeO.refl _)
      | (with_reducible exact LeO.none _)
      | (with_reducible refine LeO.ite ?_ ?_)
      | (with_reducible refine LeO.bind ?_ (fun _ => ?_))
      | exact ih0 _ _ _
      | exact ih1 _ _ _ _
      | exact LeO.none _
      | refine LeO.ite ?_ ?_
      | refine LeO.bind ?_ (fun _ => ?_)
    · intro y0 y1 y2 y3
      unfold cambiumref01_Less.j1
      repeat' first
      | (with_reducible exact ih0 _ _ _)
      | (with_reducible exact ih1 _ _ _ _)
      | (with_reducible exact LeO.refl _)
      | (with_reducible exact LeO.none _)
      | (with_reducible refine LeO.ite ?_ ?_)
      | (with_reducible refine LeO.bind ?_ (fun _ => ?_))
      | exact ih0 _ _ _
      | exact ih1 _ _ _ _
      | exact LeO.none _
      | refine LeO.ite ?_ ?_
      | refine LeO.bind ?_ (fun _ => ?_)
theorem cambiumref01_Less.mono : ∀ a0 a1 k, LeO (cambiumref01_Less.f k a0 a1) (cambiumref01_Less.f (k + 1) a0 a1) := by
  intro a0 a1 k
  obtain ⟨ih0, ih1⟩ := cambiumref01_Less.mono_l k
  unfold cambiumref01_Less.f
  repeat' first
      | (with_reducible exact ih0 _ _ _)
      | (with_reducible exact ih1 _ _ _ _)
      | (with_reducible exact LeO.refl _)
      | (with_reducible exact LeO.none _)
      | (with_reducible refine LeO.ite ?_ ?_)
      | (with_reducible refine LeO.bind ?_ (fun _ => ?_))
      | exact ih0 _ _ _
      | exact ih1 _ _ _ _
      | exact LeO.none _
      | refine LeO.ite ?_ ?_
      | refine LeO.bind ?_ (fun _ => ?_)
set_option maxHeartbeats 8000000 in
set_option maxRecDepth 100000 in
theorem cambiumref01_Less.calls (k : Nat) (A0 : Option Addr) (c0 : Nat) (l0 : List Int) (A1 : Option Addr) (c1 : Nat) (l1 : List Int) (r : Bool) (w : World) (hr0 : Kd.C (Kd.int .u8) w A0 l0.length l0) (hc0 : l0.length ≤ c0) (hr1 : Kd.C (Kd.int .u8) w A1 l1.length l1) (hc1 : l1.length ≤ c1) (h : cambiumref01_Less.f k l0 l1 = some r) :
    Calls Try.prog 13 #[.slice A0 l0.length c0, .slice A1 l1.length c1] w fun e w' => e = .returned (.bool r) ∧ Drawn0 w w' := by
  have HR0 := Aside0.mk hr0
  have HC0 := Aside0.mk hc0
  clear hr0 hc0
  have HR1 := Aside0.mk hr1
  have HC1 := Aside0.mk hc1
  clear hr1 hc1
  have H : (cambiumref01_Less.l0 k l0 l1 0) = some r := h
  clear h
  have H' := Aside0.mk H
  clear H
  go_enter Try.func13, Try.ntmps13
  go_wp2
  repeat (go_quiet (fail); try go_wp2)
  go_loopg [5] k (fun kq v5 w' => ∃ (x5_1 : Int), v5 = .int .i64 x5_1 ∧ Aside0 (cambiumref01_Less.l0 kq l0 l1 x5_1 = some r) ∧ Aside0 (kq ≤ k) ∧ Drawn0 w w')
  case atStart => exact ⟨(0), (by first | rfl | (simp; done) | (simp [*]; done)), H', ⟨Nat.le_refl _⟩, by repeat (first | exact Drawn0.refl _ | apply Drawn0.step)⟩
  case round =>
    clear H'
    try clear c1
    try clear p2
    obtain ⟨x5_1, rfl, HA, HK1, ⟨m1, rfl⟩⟩ := hrel
    cases gk with
    | zero => exact absurd HA.out (by simp [cambiumref01_Less.l0])
    | succ k1 =>
      have H := HA.out
      clear HA
      simp only [cambiumref01_Less.l0] at H
      have HC3 := Aside0.mk H
      clear H
      go_upto_region 2 with (fail)
      repeat (go_quiet (fail); go_upto_region 2 with (fail))
      go_cut [15] (fun v15 wc => ∃ (kq : Nat) (x15_2 : Bool), v15 = .bool x15_2 ∧ Aside0 (cambiumref01_Less.j1 kq l0 l1 x5_1 x15_2 = some r) ∧ Aside0 (kq ≤ k1) ∧ Drawn0 w wc)
      case first =>
        have H := HC3.out
        clear HC3
        by_cases c4 : x5_1 < (l0.length : Int)
        · rw [if_pos c4] at H
          have c4b0 : decide (x5_1 < (l0.length : Int)) = true := decide_eq_true c4
          clear c4
          (first | rw [c4b0] | (simp only [i64_w, i32_w]; rw [c4b0]) | skip)
          have H' := Aside0.mk H
          clear H
          go_wp2
          repeat (go_quiet (fail); try go_wp2)
          go_meet
          case rel => exact ⟨_, (decide (x5_1 < (l1.length : Int))), (by first | rfl | (simp; done) | (simp [*]; done)), H', ⟨by have := HK1.out; first | omega | exact Nat.le_refl _⟩, by repeat (first | exact Drawn0.refl _ | apply Drawn0.step)⟩
        · rw [if_neg c4] at H
          have c4b0 : decide (x5_1 < (l0.length : Int)) = false := decide_eq_false c4
          clear c4
          (first | rw [c4b0] | (simp only [i64_w, i32_w]; rw [c4b0]) | skip)
          have H' := Aside0.mk H
          clear H
          go_wp2
          repeat (go_quiet (fail); try go_wp2)
          go_meet
          case rel => exact ⟨_, (false), (by first | rfl | (simp; done) | (simp [*]; done)), H', ⟨by have := HK1.out; first | omega | exact Nat.le_refl _⟩, by repeat (first | exact Drawn0.refl _ | apply Drawn0.step)⟩
      case rest =>
        clear HC3
        try clear c1
        try clear p2
        try clear c4
        try clear c4b0
        try clear p2
        obtain ⟨kq, x15_2, rfl, HA, HJ2, ⟨mc2, rfl⟩⟩ := hcut
        cases kq with
        | zero => exact absurd HA.out (by simp [cambiumref01_Less.j1])
        | succ kj2 =>
          have H := HA.out
          clear HA
          simp only [cambiumref01_Less.j1] at H
          by_cases c5 : x15_2 = true
          · subst c5
            have H1 : (if 0 ≤ x5_1 then (if x5_1 < (l0.length : Int) then (if x5_1 < (l1.length : Int) then (if (rd l0 x5_1) = (rd l1 x5_1) then (cambiumref01_Less.l0 kj2 l0 l1 (wrap64 (x5_1 + 1))) else (some (decide ((rd l0 x5_1) < (rd l1 x5_1))))) else (none)) else (none)) else (none)) = some r := by rw [if_pos rfl] at H; exact H
            clear H
            have H := H1
            clear H1
            by_cases c6 : 0 ≤ x5_1
            · rw [if_pos c6] at H
              have c6b0 : decide (0 ≤ x5_1) = true := decide_eq_true c6
              clear c6
              by_cases c7 : x5_1 < (l0.length : Int)
              · rw [if_pos c7] at H
                have c7b0 : decide (x5_1 < (l0.length : Int)) = true := decide_eq_true c7
                clear c7
                by_cases c8 : x5_1 < (l1.length : Int)
                · rw [if_pos c8] at H
                  have c8b0 : decide (x5_1 < (l1.length : Int)) = true := decide_eq_true c8
                  clear c8
                  by_cases c9 : (rd l0 x5_1) = (rd l1 x5_1)
                  · rw [if_pos c9] at H
                    have c9b0 : ((rd l0 x5_1) == (rd l1 x5_1)) = true := beq_iff_eq.mpr c9
                    have c9b1 : ((rd l0 x5_1) != (rd l1 x5_1)) = false := bne_eq_false_iff_eq.mpr c9
                    clear c9
                    have H' := Aside0.mk H
                    clear H
                    have p283 : 0 ≤ (x5_1 : Int) := of_decide_eq_true (by first | (with_reducible assumption) | assumption)
                    have q283 : x5_1 < (l0.length : Int) := of_decide_eq_true (by first | (with_reducible assumption) | assumption)
                    obtain ⟨ad283, e283, hx283_0⟩ := Kd.at_int HR0.out x5_1 p283 q283
                    cases e283
                    replace p283 := eq_true p283
                    replace q283 := eq_true q283
                    have p284 : 0 ≤ (x5_1 : Int) := of_decide_eq_true (by first | (with_reducible assumption) | assumption)
                    have q284 : x5_1 < (l1.length : Int) := of_decide_eq_true (by first | (with_reducible assumption) | assumption)
                    obtain ⟨ad284, e284, hx284_0⟩ := Kd.at_int HR1.out x5_1 p284 q284
                    cases e284
                    replace p284 := eq_true p284
                    replace q284 := eq_true q284
                    go_wp2
                    repeat (go_quiet (fail); try go_wp2)
                    go_roundg kj2
                    case measure => have := HK1.out; have := HJ2.out; omega
                    case rel => exact ⟨(wrap64 (x5_1 + 1)), (by first | rfl | (simp; done) | (simp [*]; done)), H', ⟨by have := HK1.out; have := HJ2.out; omega⟩, by repeat (first | exact Drawn0.refl _ | apply Drawn0.step)⟩
                  · rw [if_neg c9] at H
                    have c9b0 : ((rd l0 x5_1) == (rd l1 x5_1)) = false := beq_eq_false_iff_ne.mpr c9
                    have c9b1 : ((rd l0 x5_1) != (rd l1 x5_1)) = true := bne_iff_ne.mpr c9
                    obtain rfl := Option.some.inj H
                    have p283 : 0 ≤ (x5_1 : Int) := of_decide_eq_true (by first | (with_reducible assumption) | assumption)
                    have q283 : x5_1 < (l0.length : Int) := of_decide_eq_true (by first | (with_reducible assumption) | assumption)
                    obtain ⟨ad283, e283, hx283_0⟩ := Kd.at_int HR0.out x5_1 p283 q283
                    cases e283
                    replace p283 := eq_true p283
                    replace q283 := eq_true q283
                    have p284 : 0 ≤ (x5_1 : Int) := of_decide_eq_true (by first | (with_reducible assumption) | assumption)
                    have q284 : x5_1 < (l1.length : Int) := of_decide_eq_true (by first | (with_reducible assumption) | assumption)
                    obtain ⟨ad284, e284, hx284_0⟩ := Kd.at_int HR1.out x5_1 p284 q284
                    cases e284
                    replace p284 := eq_true p284
                    replace q284 := eq_true q284
                    have p285 : 0 ≤ (x5_1 : Int) := of_decide_eq_true (by first | (with_reducible assumption) | assumption)
                    have q285 : x5_1 < (l0.length : Int) := of_decide_eq_true (by first | (with_reducible assumption) | assumption)
                    obtain ⟨ad285, e285, hx285_0⟩ := Kd.at_int HR0.out x5_1 p285 q285
                    obtain rfl : ad283 = ad285 := (by injection e285)
                    replace p285 := eq_true p285
                    replace q285 := eq_true q285
                    have p286 : 0 ≤ (x5_1 : Int) := of_decide_eq_true (by first | (with_reducible assumption) | assumption)
                    have q286 : x5_1 < (l1.length : Int) := of_decide_eq_true (by first | (with_reducible assumption) | assumption)
                    obtain ⟨ad286, e286, hx286_0⟩ := Kd.at_int HR1.out x5_1 p286 q286
                    obtain rfl : ad284 = ad286 := (by injection e286)
                    replace p286 := eq_true p286
                    replace q286 := eq_true q286
                    go_wp2
                    repeat (go_quiet (fail); try go_wp2)
                    go_ret
                    exact ⟨by first | rfl | (simp; done) | (simp [*]; done), by repeat (first | exact Drawn0.refl _ | apply Drawn0.step)⟩
                · rw [if_neg c8] at H
                  exact absurd H (by simp)
              · rw [if_neg c7] at H
                exact absurd H (by simp)
            · rw [if_neg c6] at H
              exact absurd H (by simp)
          · replace c5 := Bool.eq_false_iff.mpr c5
            subst c5
            have H1 : (some (decide ((l0.length : Int) < (l1.length : Int)))) = some r := by rw [if_neg (show ¬ (false = true) by decide)] at H; exact H
            clear H
            have H := H1
            clear H1
            obtain rfl := Option.some.inj H
            go_wp2
            repeat (go_quiet (fail); try go_wp2)
            go_ret
            exact ⟨by first | rfl | (simp; done) | (simp [*]; done), by repeat (first | exact Drawn0.refl _ | apply Drawn0.step)⟩

/-- THE ONE PURE STATEMENT of cambiumref01_Less: yours. -/
def cambiumref01_Less.Pure : Prop := ∀ (l0 : List Int) (l1 : List Int), l0.length ≤ maxLen → l0.length * 1 ≤ 140737488351232 → (∀ x ∈ l0, (Lit.int .u8 x).wf = true) → l1.length ≤ maxLen → l1.length * 1 ≤ 140737488351232 → (∀ x ∈ l1, (Lit.int .u8 x).wf = true) → ∃ k, cambiumref01_Less.f k l0 l1 = some true
theorem cambiumref01_Less.walk (P : cambiumref01_Less.Pure) (a0 : Option Addr) (len0 cap0 : Nat) (z0 : List Int) (a1 : Option Addr) (len1 cap1 : Nat) (z1 : List Int) (w : World) (w0 : (a0 = none ∧ len0 = 0 ∧ cap0 = 0 ∧ z0 = []) ∨ ∃ x, a0 = some x ∧ len0 ≤ cap0 ∧ cap0 ≤ maxLen ∧ z0.length = cap0 ∧ (∀ i, i < z0.length → w.cell? (x.add i) = some (.int .u8 (z0.getD i 0))) ∧ ∀ n ∈ z0, (Lit.int .u8 n).wf = true) (y0 : len0 * 1 ≤ 140737488351232) (w1 : (a1 = none ∧ len1 = 0 ∧ cap1 = 0 ∧ z1 = []) ∨ ∃ x, a1 = some x ∧ len1 ≤ cap1 ∧ cap1 ≤ maxLen ∧ z1.length = cap1 ∧ (∀ i, i < z1.length → w.cell? (x.add i) = some (.int .u8 (z1.getD i 0))) ∧ ∀ n ∈ z1, (Lit.int .u8 n).wf = true) (y1 : len1 * 1 ≤ 140737488351232) :
    Calls Try.prog 13 #[.slice a0 len0 cap0, .slice a1 len1 cap1] w fun e w' => e = .returned (.bool true) ∧ Below w.heap.size w w' := by
  obtain ⟨l0, rfl, hr0, hm0, hw0, hc0⟩ := ReadsInt.ofRowC w0
  obtain ⟨l1, rfl, hr1, hm1, hw1, hc1⟩ := ReadsInt.ofRowC w1
  obtain ⟨k, h⟩ := P l0 l1 hm0 y0 hw0 hm1 y1 hw1
  refine (cambiumref01_Less.calls k _ _ l0 _ _ l1 true w (Kd.C_of_reads (d := (0 : Int)) (h1 := fun _ => rfl) hr0) hc0 (Kd.C_of_reads (d := (0 : Int)) (h1 := fun _ => rfl) hr1) hc1 h).mono ?_
  rintro e w' ⟨rfl, hd⟩
  exact ⟨rfl, hd.below⟩

end Go.Proofs.Ytmckgcooehdbaaa.PMiss
