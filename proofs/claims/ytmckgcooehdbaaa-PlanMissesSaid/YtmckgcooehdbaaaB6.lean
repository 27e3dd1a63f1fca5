/- The contracts of plan.within and plan.beginning. No condition beyond those that each theorem names. -/
import Derived.Test.YtmckgcooehdbaaaB
set_option linter.unusedVariables false
set_option linter.unusedSimpArgs false
namespace Go.Proofs.Ytmckgcooehdbaaa
open Go.RowKit Go.Proofs.YtmckgcooehdbaaaW.PrintWords

/-- Bytes. -/
def ByteL (xs : List Int) : Prop := ∀ x ∈ xs, 0 ≤ x ∧ x ≤ 255
theorem ByteL.rd {xs : List Int} (h : ByteL xs) (i : Int) : 0 ≤ rd xs i ∧ rd xs i ≤ 255 := by
  unfold Go.Proofs.YtmckgcooehdbaaaW.PrintWords.rd
  rw [List.getD_eq_getElem?_getD]
  cases hx : xs[i.toNat]? with
  | none => simp
  | some x => exact h x (List.mem_of_getElem? hx)
theorem ByteL.nil : ByteL [] := fun _ h => by cases h
theorem ByteL.append {xs ys : List Int} (h : ByteL xs) (k : ByteL ys) : ByteL (xs ++ ys) := fun x hx => by
  rcases List.mem_append.1 hx with hx | hx
  · exact h x hx
  · exact k x hx
theorem ByteL.key (n : Int) : ByteL (keyB n) := fun x hx => by
  simp only [keyB, List.mem_cons, List.mem_nil_iff, or_false] at hx
  omega
theorem ByteL.text (s : ByteArray) : ByteL (bytesB s) := fun x hx => by
  simp only [bytesB, List.mem_map] at hx
  obtain ⟨b, _, rfl⟩ := hx
  have := b.toNat_lt
  omega

/-- A row of bytes that is read. -/
def ReadV (w : World) (v : Value) (xs : List Int) : Prop := ∃ A c, v = .slice A xs.length c ∧ xs.length ≤ c ∧ ReadsInt w .u8 A xs.length xs
theorem ReadV.shape {w : World} {v : Value} {xs : List Int} (h : ReadV w v xs) : ∃ A c, v = .slice A xs.length c := by
  obtain ⟨A, c, e, _⟩ := h
  exact ⟨A, c, e⟩
theorem ReadV.below {w w1 : World} {v : Value} {xs : List Int} (h : ReadV w v xs) (hb : Below w.heap.size w w1) : ReadV w1 v xs := by
  obtain ⟨A, c, rfl, hc, hr⟩ := h
  exact ⟨A, c, rfl, hc, hr.below hb⟩
theorem ReadV.of_own {w : World} {base : Nat} {v : Value} {xs : List Int} (h : OwnB w base v xs) : ReadV w v xs := by
  obtain ⟨A, c, rfl, hr⟩ := own_slice_reads h
  refine ⟨A, c, rfl, ?_, hr⟩
  rcases h.2 with ⟨h1, h2⟩ | ⟨g, cap, cur, h1, _, _, h2, _⟩
  · omega
  · cases h1; exact h2
theorem ReadV.of_ownm {w : World} {base : Nat} {v : Value} {xs : List Int} (h : OwnM w base v xs) : ReadV w v xs := by
  obtain ⟨g, cap, rfl, _, _, hc, hr⟩ := h.reads
  exact ⟨_, cap, rfl, hc, hr⟩

/-- A plan: by which tree, from where, to where, whether sorted. -/
def TellsPlan (index : Int) (from_ to_ : List Int) (sorted : Bool) (w : World) (e : Ending) (w' : World) : Prop :=
  ∃ v1 v2, e = .returned (.agg #[.int .i64 index, v1, v2, .bool sorted]) ∧ ReadV w' v1 from_ ∧ ReadV w' v2 to_ ∧ Below w.heap.size w w'

def toB (head : List Int) (greatest : Int) : List Int := if greatest < 9223372036854775807 then behindB (head ++ keyB (max greatest 0)) else behindB head

/-- The block of a result that is a plan. -/
def PlanBox (w : World) (g : Nat) : Prop := w.heap[g]? = some (.cells #[.int .i64 0, .slice none 0 0, .slice none 0 0, .bool false] 38 (0, 0))
theorem PlanBox.new (w : World) : PlanBox (w.alloc (.cells #[.int .i64 0, .slice none 0 0, .slice none 0 0, .bool false] 38)) w.heap.size := heap_alloc_new _ _
theorem PlanBox.below {w w1 : World} {g : Nat} (h : PlanBox w g) (hb : Below w.heap.size w w1) : PlanBox w1 g := (hb.block g (Array.getElem?_eq_some_iff.1 h).1).trans h
theorem PlanBox.cells {w : World} {g : Nat} (h : PlanBox w g) : (w.cell? ⟨g, 0, none⟩ = some (.int .i64 0) ∧ w.cell? ⟨g, 1, none⟩ = some (.slice none 0 0) ∧ w.cell? ⟨g, 2, none⟩ = some (.slice none 0 0) ∧ w.cell? ⟨g, 3, none⟩ = some (.bool false)) ∧
    w.frozen? ⟨g, 0, none⟩ = false ∧ w.frozen? ⟨g, 1, none⟩ = false ∧ w.frozen? ⟨g, 2, none⟩ = false ∧ w.frozen? ⟨g, 3, none⟩ = false := by
  unfold PlanBox at h
  simp [World.cell?, World.frozen?, h]
/-- A block that holds no bytes. -/
def NotU8 (w : World) (g : Nat) : Prop := ∀ j x, w.cell? ⟨g, j, none⟩ ≠ some (.int .u8 x)
theorem PlanBox.notU8 {w : World} {g : Nat} (h : PlanBox w g) : NotU8 w g := by
  intro j x he
  unfold PlanBox at h
  simp only [World.cell?, h] at he
  rcases j with _ | _ | _ | _ | j <;> simp at he
theorem NotU8.set_ {w : World} {g : Nat} (h : NotU8 w g) (i : Nat) (u : Value) (hu : ∀ x, u ≠ .int .u8 x) : NotU8 (w.setCell ⟨g, i, none⟩ u) g := by
  intro j x he
  by_cases hij : i = j
  · subst hij
    cases hc : w.cell? ⟨g, i, none⟩ with
    | some v =>
      rw [World.cell?_setCell_same _ _ _ hc] at he
      exact hu x (Option.some.inj he)
    | none =>
      have : (w.setCell ⟨g, i, none⟩ u).cell? ⟨g, i, none⟩ = none := by
        simp only [World.cell?, World.setCell, Array.getElem?_modify, if_true] at hc ⊢
        cases hh : w.heap[g]? with
        | none => simp
        | some o => cases o <;> simp_all
      rw [this] at he
      cases he
  · rw [World.cell?_setCell_other _ _ _ _ (by simp [hij])] at he
    exact h j x he
/-- What is read stays as it is when a block that holds no bytes is written. -/
theorem ReadV.box {w : World} {g : Nat} (hg : NotU8 w g) {v : Value} {xs : List Int} (h : ReadV w v xs) (i : Nat) (u : Value) : ReadV (w.setCell ⟨g, i, none⟩ u) v xs := by
  obtain ⟨A, c, rfl, hc, h1, h2, h3⟩ := h
  refine ⟨A, c, rfl, hc, h1, h2, fun h0 => ?_⟩
  obtain ⟨ad, e, hcell⟩ := h3 h0
  refine ⟨ad, e, fun j hj => ?_⟩
  have hh := hcell j hj
  rw [World.cell?_setCell_other _ _ _ _ (fun e => hg i _ (e ▸ hh))]
  exact hh

theorem ReadV.plan4 {w : World} {g : Nat} (hg : PlanBox w g) {v : Value} {xs : List Int} (h : ReadV w v xs) (i : Int) (A1 A2 : Option Addr) (k1 c1 k2 c2 : Nat) (s : Bool) :
    ReadV ((((w.setCell ⟨g, 0, none⟩ (.int .i64 i)).setCell ⟨g, 1, none⟩ (.slice A1 k1 c1)).setCell ⟨g, 2, none⟩ (.slice A2 k2 c2)).setCell ⟨g, 3, none⟩ (.bool s)) v xs := by
  have n0 := hg.notU8
  have n1 := n0.set_ 0 (.int .i64 i) (by simp)
  have n2 := n1.set_ 1 (.slice A1 k1 c1) (by simp)
  exact (((h.box n0 _ _).box n1 _ _).box n2 _ _).box (n2.set_ 2 _ (by simp)) _ _

theorem reads_two (W : World) (v0 v1 : Value) (t : Nat) : (W.alloc (.cells #[v0, v1] t)).cell? ⟨W.heap.size, 0, none⟩ = some v0 ∧ (W.alloc (.cells #[v0, v1] t)).cell? ⟨W.heap.size, 1, none⟩ = some v1 := by
  simp [World.cell?_alloc_new]

set_option maxHeartbeats 4000000 in
set_option maxRecDepth 100000 in
theorem within_any (index : Int) (A : Option Addr) (n c : Nat) (head : List Int) (least greatest : Int) (sorted : Bool) (w : World) (h : ReadsInt w .u8 A n head) (hn : n ≤ 10000) (hnc : n ≤ c) (hby : ByteL head)
    (hl0 : 0 ≤ least) (hl1 : least ≤ 9223372036854775807) (hg0 : -9223372036854775808 ≤ greatest) (hg1 : greatest ≤ 9223372036854775807) :
    Calls Try.prog 20 #[.int .i64 index, .slice A n c, .int .i64 least, .int .i64 greatest, .bool sorted] w fun e w' => TellsPlan index (head ++ keyB least) (toB head greatest) sorted w e w' := by
  have HR := Lib.hid h
  clear h
  have HL := Lib.hid HR.out.1
  go_enter Try.func20, Try.ntmps20
  go_wp2_with fail
  refine (key_any least _ (by omega) (by omega)).mono ?_
  rintro e w1 ⟨v1, xs, rfl, ho, hx, hb⟩
  have HX := Lib.hid hx
  have HB0 := Lib.hid ((Below.refl w.heap.size w).alloc (Nat.le_refl _) (.cells #[.int .i64 0, .slice none 0 0, .slice none 0 0, .bool false] 38))
  have HB1 := Lib.hid (below_then HB0.out HB0.out.size hb)
  have HP := Lib.hid ((PlanBox.new w).below hb)
  obtain ⟨A1, c1, rfl, hr1⟩ := own_slice_reads ho
  have HR1 := Lib.hid hr1
  have HLX : Hid (xs.length = 8) := by unfold Hid; rw [hx]; rfl
  clear hx hb ho hr1
  go_wp2_with fail
  have h2 := reads_two w1 (.slice A n c) (.slice A1 xs.length c1) 36
  have hb2 := (Below.refl w1.heap.size w1).alloc (Nat.le_refl _) (.cells #[.slice A n c, .slice A1 xs.length c1] 36)
  refine (concat_any w1.heap.size A n c head A1 xs.length c1 xs _ h2.1 h2.2 (HR.out.below (HB1.out.trans (hb2.mono HB1.out.size))) (HR1.out.below hb2) (by omega) (by have := HLX.out; omega)).mono ?_
  rintro e w2 ⟨v2, ys, rfl, ho, hy, hb⟩
  obtain ⟨A2, c2, rfl⟩ := (ReadV.of_own ho).shape
  have hb3 := below_then hb2 hb2.size hb
  have HY := Lib.hid hy
  have HB2 := Lib.hid (below_then HB1.out HB1.out.size hb3)
  have HP2 := Lib.hid (HP.out.below hb3)
  have HV2 := Lib.hid (ReadV.of_own ho)
  clear hb hb2 hb3 hy ho h2 HP HB1 HR1
  go_wp2_with fail
  refine (behind_any A n c head _ (HR.out.below HB2.out) (by omega) hnc (fun i => hby.rd i)).mono ?_
  rintro e w3 ⟨v3, zs, rfl, ho, hz, hb⟩
  obtain ⟨A3, c3, rfl⟩ := (ReadV.of_own ho).shape
  have HZ := Lib.hid hz
  have HB3 := Lib.hid (below_then HB2.out HB2.out.size hb)
  have HP3 := Lib.hid (HP2.out.below hb)
  have HV2 := Lib.hid (HV2.out.below hb)
  have HV3 := Lib.hid (ReadV.of_own ho)
  clear hb hz ho HP2 HB2
  have hfin : ∀ (A4 : Option Addr) (c4 : Nat) (us : List Int) (w4 : World), Below w3.heap.size w3 w4 → ReadV w4 (.slice A4 us.length c4) us → us = toB head greatest →
      TellsPlan index (head ++ keyB least) (toB head greatest) sorted w (.returned (.agg #[.int .i64 index, .slice A2 ys.length c2, .slice A4 us.length c4, .bool sorted]))
        ((((w4.setCell ⟨w.heap.size, 0, none⟩ (.int .i64 index)).setCell ⟨w.heap.size, 1, none⟩ (.slice A2 ys.length c2)).setCell ⟨w.heap.size, 2, none⟩ (.slice A4 us.length c4)).setCell ⟨w.heap.size, 3, none⟩ (.bool sorted)) := by
    intro A4 c4 us w4 hb hv hu
    have hp := HP3.out.below hb
    have e1 : ys = head ++ keyB least := by rw [HY.out, HX.out]
    rw [← e1, ← hu]
    refine ⟨_, _, rfl, (HV2.out.below hb).plan4 hp _ _ _ _ _ _ _ _, hv.plan4 hp _ _ _ _ _ _ _ _, ?_⟩
    exact ((((below_then HB3.out HB3.out.size hb).setCell (Nat.le_refl _) _).setCell (Nat.le_refl _) _).setCell (Nat.le_refl _) _).setCell (Nat.le_refl _) _
  have HF := Lib.hid hfin
  clear hfin
  by_cases hlt : greatest < 9223372036854775807
  · obtain ⟨M, hM, h0, h1, h2⟩ : ∃ M : Int, M = max greatest 0 ∧ 0 ≤ M ∧ M < 18446744073709551616 ∧ (if greatest < 0 then 0 else greatest) = M := ⟨max greatest 0, rfl, by omega, by omega, by split <;> omega⟩
    have HM := Lib.hid hM
    clear hM
    go_wp2_with fail
    refine (key_any M _ h0 h1).mono ?_
    rintro e w4 ⟨v4, ks, rfl, ho, hk, hb⟩
    obtain ⟨A5, c5, rfl, hr5⟩ := own_slice_reads ho
    have HK := Lib.hid hk
    have HLK : Hid (ks.length = 8) := by unfold Hid; rw [hk]; rfl
    have HB4 := Lib.hid hb
    have HR5 := Lib.hid hr5
    clear hk hb ho hr5 h2
    go_wp2_with fail
    have hx2 := reads_two w4 (.slice A n c) (.slice A5 ks.length c5) 36
    have hb2 := (Below.refl w4.heap.size w4).alloc (Nat.le_refl _) (.cells #[.slice A n c, .slice A5 ks.length c5] 36)
    have HB5 := Lib.hid (below_then HB3.out HB3.out.size HB4.out)
    refine (concat_any w4.heap.size A n c head A5 ks.length c5 ks _ hx2.1 hx2.2 (HR.out.below (below_then HB5.out HB5.out.size hb2)) (HR5.out.below hb2) (by omega) (by have := HLK.out; omega)).mono ?_
    rintro e w6 ⟨v6, us, rfl, ho, hu, hb⟩
    have HU := Lib.hid hu
    have hb7 := below_then hb2 hb2.size hb
    have HB6 := Lib.hid (below_then HB4.out HB4.out.size hb7)
    obtain ⟨A6, c6, rfl, hc6, hr6⟩ := ReadV.of_own ho
    have HR6 := Lib.hid hr6
    have HC6 := Lib.hid hc6
    have HLU : Hid (us.length ≤ 10008) := by
      unfold Hid
      rw [hu, List.length_append]
      have := HLK.out
      have := HL.out
      omega
    have HUB : Hid (ByteL us) := by
      unfold Hid
      rw [hu, HK.out]
      exact hby.append (ByteL.key _)
    clear hu hb hb2 hb7 ho hr6 hx2 hc6 HB5 HR5 HB4
    go_wp2_with fail
    refine (behind_any A6 us.length c6 us _ HR6.out (by have := HLU.out; omega) HC6.out (fun i => HUB.out.rd i)).mono ?_
    rintro e w7 ⟨v7, ts, rfl, ho, ht, hb⟩
    obtain ⟨A7, c7, rfl⟩ := (ReadV.of_own ho).shape
    have HT : Hid (ts = toB head greatest) := by
      unfold Hid toB
      rw [if_pos hlt, ht, HU.out, HK.out, HM.out]
    have HB7 := Lib.hid (below_then HB6.out HB6.out.size hb)
    have HV7 := Lib.hid (ReadV.of_own ho)
    clear ho ht hb HB6
    obtain ⟨⟨p0, p1, p2, p3⟩, q0, q1, q2, q3⟩ := (HP3.out.below HB7.out).cells
    go_wp2
    refine bodyPost_ret (v := .agg #[.int .i64 index, .slice A2 ys.length c2, .slice A7 ts.length c7, .bool sorted]) (by simp [results, Try.results20, go_sem, p0, p1, p2, p3]) rfl ?_
    exact HF.out A7 c7 ts w7 HB7.out HV7.out HT.out
  · obtain ⟨⟨p0, p1, p2, p3⟩, q0, q1, q2, q3⟩ := HP3.out.cells
    have HE : Hid (zs = toB head greatest) := by unfold Hid toB; rw [if_neg hlt, HZ.out]
    go_wp2
    refine bodyPost_ret (v := .agg #[.int .i64 index, .slice A2 ys.length c2, .slice A3 zs.length c3, .bool sorted]) (by simp [results, Try.results20, go_sem, p0, p1, p2, p3]) rfl ?_
    exact HF.out A3 c3 zs w3 (Below.refl _ _) HV3.out HE.out

set_option maxHeartbeats 4000000 in
set_option maxRecDepth 100000 in
theorem beginning_any (index : Int) (A : Option Addr) (n c : Nat) (head : List Int) (w : World) (h : ReadsInt w .u8 A n head) (hn : n ≤ 10000) (hnc : n ≤ c) (hby : ByteL head) :
    Calls Try.prog 23 #[.int .i64 index, .slice A n c] w fun e w' => TellsPlan index head (behindB head) false w e w' := by
  have hl := h.1
  subst hl
  have HR := Lib.hid h
  clear h
  have HB0 := Lib.hid ((Below.refl w.heap.size w).alloc (Nat.le_refl _) (.cells #[.int .i64 0, .slice none 0 0, .slice none 0 0, .bool false] 38))
  go_enter Try.func23, Try.ntmps23
  go_wp2_with fail
  refine (behind_any A head.length c head _ (HR.out.below HB0.out) (by omega) hnc (fun i => hby.rd i)).mono ?_
  rintro e w3 ⟨v3, zs, rfl, ho, hz, hb⟩
  obtain ⟨A3, c3, rfl⟩ := (ReadV.of_own ho).shape
  have HZ := Lib.hid hz
  have HB3 := Lib.hid (below_then HB0.out HB0.out.size hb)
  have HP3 := Lib.hid ((PlanBox.new w).below hb)
  have HV3 := Lib.hid (ReadV.of_own ho)
  have HV2 : Hid (ReadV w3 (.slice A head.length c) head) := ⟨A, c, rfl, hnc, HR.out.below HB3.out⟩
  clear hb hz ho
  obtain ⟨⟨p0, p1, p2, p3⟩, q0, q1, q2, q3⟩ := HP3.out.cells
  go_wp2
  refine bodyPost_ret (v := .agg #[.int .i64 index, .slice A head.length c, .slice A3 zs.length c3, .bool false]) (by simp [results, Try.results23, go_sem, p0, p1, p2, p3]) rfl ?_
  rw [← HZ.out]
  refine ⟨_, _, rfl, HV2.out.plan4 HP3.out _ _ _ _ _ _ _ _, HV3.out.plan4 HP3.out _ _ _ _ _ _ _ _, ?_⟩
  exact (((HB3.out.setCell (Nat.le_refl _) _).setCell (Nat.le_refl _) _).setCell (Nat.le_refl _) _).setCell (Nat.le_refl _) _
end Go.Proofs.Ytmckgcooehdbaaa
