/- The contract of cambiumref02.Match: it tells a truth, for every pattern and text of at most 100000 bytes. No condition beyond those that each theorem names. -/
import Derived.Test.YtmckgcooehdbaaaF4
set_option linter.unusedVariables false
set_option linter.unusedSimpArgs false
namespace Go.Proofs.Ytmckgcooehdbaaa
open Go.RowKit Go.Proofs.YtmckgcooehdbaaaW.PrintWords Go.Proofs.Ytmckgcooehdbaaa.PMiss

theorem info_bool : (Try.prog.info? 4).map (fun i => (i.zero, i.size, i.bytes)) = some (some (.bool false), 1, 1) := by kernel_rfl

/-- A row of numbers that is told: at most m. -/
def TellsNums (m : Nat) (w : World) (e : Ending) (w' : World) : Prop := ∃ A c xs, e = .returned (.slice A (List.length xs) c) ∧ Kd.C (Kd.int .i64) w' A xs.length xs ∧ xs.length ≤ m ∧ Below w.heap.size w w'
theorem signs_any (p : ByteArray) (w : World) (hp : p.size ≤ 100000) : Calls Try.prog 50 #[.string p] w fun e w' => TellsNums 100001 w e w' := by
  obtain ⟨xs, hf, hl⟩ := signs_f p hp (p.size + 11) (by omega)
  refine (cambiumref02_signs.calls _ p xs w hf).mono fun e w' ⟨v, he, hR, hb⟩ => ?_
  obtain ⟨A, c, rfl, _, hC⟩ := Kd.R_reads hR
  exact ⟨A, c, xs, he, hC, hl, hb⟩
def TellsTwo (m : Nat) (w : World) (e : Ending) (w' : World) : Prop := ∃ A c xs v, e = .returned (.tuple #[.slice A (List.length xs) c, v]) ∧ Kd.C (Kd.int .i64) w' A xs.length xs ∧ xs.length ≤ m ∧ Below w.heap.size w w'
theorem runes_two (s : ByteArray) (w : World) (hs : s.size ≤ 100000) : Calls Try.prog 46 #[.string s] w fun e w' => TellsTwo 100000 w e w' := by
  obtain ⟨xs, ys, hf, hl⟩ := runes_f s hs (s.size + 11) (by omega)
  refine (cambiumref02_Runes.calls _ s xs ys w hf).mono fun e w' ⟨v0, v1, he, hR, _, hb⟩ => ?_
  obtain ⟨A, c, rfl, _, hC⟩ := Kd.R_reads hR
  exact ⟨A, c, xs, v1, he, hC, by omega, hb⟩

set_option maxHeartbeats 4000000 in
set_option maxRecDepth 100000 in
theorem glob_any (p s : ByteArray) (w : World) (hp : p.size ≤ 100000) (hs : s.size ≤ 100000) : Calls Try.prog 43 #[.string p, .string s] w fun e w' => AnyB w e w' := by
  go_enter Try.func43, Try.ntmps43
  go_wp2_with fail
  refine (signs_any p _ hp).mono ?_
  rintro e w1 ⟨A1, c1, ps, rfl, hC1, hl1, hb1⟩
  have HC1 := Lib.hid hC1
  have HB1 := Lib.hid hb1
  clear hC1 hb1
  go_wp2_with fail
  refine (runes_two s _ hs).mono ?_
  rintro e w2 ⟨A2, c2, ts, v2, rfl, hC2, hl2, hb2⟩
  have HC2 := Lib.hid hC2
  have HP2 := Lib.hid (Kd.C_below HC1.out hb2)
  have HB2 := Lib.hid (below_then HB1.out HB1.out.size hb2)
  clear hC2 hb2 HC1 HB1
  obtain ⟨N, hN⟩ : ∃ N, N = ts.length + 1 := ⟨_, rfl⟩
  have hNa : N ≤ ts.length + 1 := by omega
  have hNb : ts.length + 1 ≤ N := by omega
  have hNc : 0 < N := by omega
  have hlen : (List.replicate ((ts.length : Int) + 1).toNat false).length = N := by simp [hN]
  have HLen := Lib.hid hlen
  clear hN hlen
  go_upto_region 5 with ((with_reducible refine gate_dst (N := 22) rfl ?_); refine Kd.R_make Kd.bool _ 4 rfl (N := 22) rfl 90 _ _ rfl ((ts.length : Int) + 1) rfl rfl Try.underlying90 (.bool false) 1 info_bool rfl (by decide) (by omega) false (ok := fun _ => True) (okp := fun _ => True) rfl (fun _ hk => hk) trivial (by omega) (by omega) (Below.refl _ _) (Nat.le_refl _) ?_; intro v3 w3 hR3 hb3 _ _; obtain ⟨g, cap, rfl, hrow⟩ := BRow.of_R hR3 (by simp); rw [HLen.out] at hrow ⊢; have HR3 := Lib.hid hrow; have HB3 := Lib.hid hb3; clear hR3 hb3 hrow; obtain ⟨b0, hc0⟩ := HR3.out.cell 0 hNc; have hf0 := HR3.out.free 0 hNc)
  have HR4 := Lib.hid (HR3.out.put 0 hNc true)
  have HB4 := Lib.hid (HB3.out.setCell (p := ⟨g, 0, none⟩) HR3.out.ge (.bool true))
  clear HR3 HB3 hc0 hf0
  go_wp2
  go_loopw [8, 9] (fun v8 v9 wr => ∃ (g cap i : Nat), v8 = .slice (some ⟨g, 0, none⟩) N cap ∧ v9 = .int .i64 i ∧ i ≤ ps.length ∧ Aside0 (BRow wr w2.heap.size g N) ∧ Aside0 (Below w2.heap.size w2 wr)) (fun _ v9 _ => ps.length - (intOf v9).toNat)
  case atStart => exact ⟨g, cap, 0, rfl, rfl, by omega, ⟨HR4.out⟩, ⟨HB4.out⟩⟩
  case round =>
    clear HR4 HB4
    obtain ⟨g, cap, i, rfl, rfl, hi, HR, HB⟩ := hrel
    obtain ⟨wo, rfl⟩ : ∃ wo : World, wo = wr := ⟨_, rfl⟩
    by_cases hlt : i < ps.length
    · obtain ⟨ad, rfl, hpc⟩ := Kd.at_int (Kd.C_below HP2.out HB.out) (i : Int) (by omega) (by omega)
      have HPC := Lib.hid hpc
      clear hpc
      go_wp2_with ((with_reducible refine gate_dst (N := 34) rfl ?_); refine Kd.R_make Kd.bool _ 4 rfl (N := 34) rfl 90 _ _ rfl ((ts.length : Int) + 1) rfl rfl Try.underlying90 (.bool false) 1 info_bool rfl (by decide) (by omega) false (ok := fun _ => True) (okp := fun _ => True) rfl (fun _ hk => hk) trivial (by omega) (by omega) (Below.refl _ _) (Nat.le_refl _) ?_; intro v4 w4 hR4 hb4 _ _; obtain ⟨g2, cap2, rfl, hrow⟩ := BRow.of_R hR4 (by simp); rw [HLen.out] at hrow ⊢; have HR4 := Lib.hid hrow; have HB4 := Lib.hid hb4; clear hR4 hb4 hrow)
      go_loopw [11] (fun v11 wr => ∃ j : Nat, v11 = .int .i64 j ∧ j ≤ N ∧ Aside0 (BRow wr wo.heap.size g2 N) ∧ Aside0 (Below wo.heap.size wo wr)) (fun v11 _ => N - (intOf v11).toNat)
      case atStart => exact ⟨0, rfl, by omega, ⟨HR4.out⟩, ⟨HB4.out⟩⟩
      case round =>
        clear HR4 HB4
        obtain ⟨j, rfl, hj, HN, HBn⟩ := hrel
        by_cases hjl : j < N
        · have hpc := pw_cell_below HBn.out HPC.out
          have p1 := eq_true (show (0 : Int) ≤ (i : Int) by omega)
          have p2 := eq_true (show (i : Int) < (ps.length : Int) by omega)
          simp only [Int.toNat_natCast] at hpc
          go_upto_if 45 with fail
          obtain ⟨bj, hbj⟩ := (HR.out.below HBn.out).cell j hjl
          obtain ⟨nj, hnj⟩ := HN.out.cell j hjl
          have hfj := HN.out.free j hjl
          have p3 := eq_true (show (0 : Int) ≤ (j : Int) by omega)
          have p4 := eq_true (show (j : Int) < (N : Int) by omega)
          have HP : Hid (∀ b : Bool, BRow (wr.setCell ⟨g2, j, none⟩ (.bool b)) wo.heap.size g2 N) := fun b => HN.out.put j hjl b
          have HBp : Hid (∀ b : Bool, Below wo.heap.size wo (wr.setCell ⟨g2, j, none⟩ (.bool b))) := fun b => HBn.out.setCell HN.out.ge _
          have hpl := World.block_lt_of_cell? wo _ HPC.out
          generalize hx : rd ps (i : Int) = x at *
          clear hx
          generalize hq : (x == -1) = q
          cases q
          · obtain ⟨rb, hrb⟩ : ∃ rb : Bool, 0 < j → wr.cell? ⟨g, j - 1, none⟩ = some (.bool rb) := by
              by_cases hj0 : 0 < j
              · obtain ⟨bp, hbp⟩ := (HR.out.below HBn.out).cell (j - 1) (by omega)
                exact ⟨bp, fun _ => hbp⟩
              · exact ⟨false, fun h => absurd h hj0⟩
            obtain ⟨ad2, y0, ht2⟩ : ∃ (ad2 : Addr) (y0 : Int), 0 < j → (A2 = some ad2 ∧ j ≤ ts.length) ∧ (ad2.add (j - 1)).block < wo.heap.size ∧ wr.cell? (ad2.add (j - 1)) = some (.int .i64 y0) := by
              by_cases hj0 : 0 < j
              · obtain ⟨ad2, ha2, htc⟩ := Kd.at_int (Kd.C_below HC2.out HB.out) ((j : Int) - 1) (by omega) (by omega)
                rw [show ((j : Int) - 1).toNat = j - 1 by omega] at htc
                exact ⟨ad2, _, fun _ => ⟨⟨ha2, by omega⟩, World.block_lt_of_cell? wo _ htc, pw_cell_below HBn.out htc⟩⟩
              · exact ⟨⟨0, 0, none⟩, 0, fun h => absurd h hj0⟩
            have HIn : Hid (∀ a0 : Act, a0.tmps[10]? = some (.slice (some ⟨g2, 0, none⟩) N cap2) → a0.tmps[11]? = some (.int .i64 j) → a0.tmps[8]? = some (.slice (some ⟨g, 0, none⟩) N cap) → a0.tmps[5]? = some (.slice (some ad) ps.length c1) → a0.tmps[9]? = some (.int .i64 i) → a0.tmps[6]? = some (.slice A2 ts.length c2) →
                InG wo.heap.size wr a0 N g g2 cap cap2 i j ps.length ts.length c1 c2 ad A2 ad2 (decide (0 < j)) rb (x == -2) (x == y0) x y0) := fun a0 h1 h2 h3 h4 h5 h6 =>
              ⟨HBn.out.size, h1, h2, h3, h4, h5, h6, rfl, fun h => of_decide_eq_true h, hjl, by omega, hlt, HR.out.lt, hrb, by simpa using hpl, hpc, rfl, rfl, fun h => (ht2 h).1, fun h => (ht2 h).2.1, fun h => (ht2 h).2.2, HN.out⟩
            clear hrb ht2 hbj hnj hfj p3 p4 HP HBp hpl
            go_upto_region 14 with fail
            refine region14 (by kernel_rfl) (by simp) (HIn.out _ rfl rfl rfl rfl rfl rfl) ?_
            intro y w5 hb5 hr5
            have HR5 := Aside0.mk hr5
            have HB5 := Aside0.mk (HBn.out.trans hb5)
            clear hb5 hr5 HIn HBn HN
            simp only [fullOf, Act.put, List.setIfInBounds_toArray, List.set_cons_zero, List.set_cons_succ]
            go_wp2
            go_roundw
            case rel => exact ⟨j + 1, by go_num, by omega, HR5, HB5⟩
            case measure => simp [intOf]; omega
          · by_cases hj0 : 0 < j
            · obtain ⟨bp, hbp⟩ := (HR.out.below HBn.out).cell (j - 1) (by omega)
              obtain ⟨np, hnp⟩ := HN.out.cell (j - 1) (by omega)
              clear hNa hNb
              cases bj
              all_goals
                go_wp2
                go_roundw
                case rel => first | exact ⟨j + 1, by go_num, by omega, ⟨HP.out _⟩, ⟨HBp.out _⟩⟩ | exact ⟨j + 1, by go_num, by omega, ⟨(HP.out _).drew⟩, ⟨(HBp.out _).drew⟩⟩
                case measure => simp [intOf]; omega
            · obtain rfl : j = 0 := by omega
              clear hj0 hNa hNb
              cases bj
              all_goals
                go_wp2
                go_roundw
                case rel => first | exact ⟨0 + 1, by go_num, by omega, ⟨HP.out _⟩, ⟨HBp.out _⟩⟩ | exact ⟨0 + 1, by go_num, by omega, ⟨(HP.out _).drew⟩, ⟨(HBp.out _).drew⟩⟩
                case measure => simp [intOf]; omega
        · obtain rfl : j = N := by omega
          have HR5 := Aside0.mk (HN.out.lower HB.out.size)
          have HB5 := Aside0.mk (below_then HB.out HB.out.size HBn.out)
          go_wp2
          go_roundw
          case rel => exact ⟨g2, cap2, i + 1, rfl, by go_num, by omega, HR5, HB5⟩
          case measure => simp [intOf]; omega
    · obtain rfl : i = ps.length := by omega
      obtain ⟨bl, hcl⟩ := HR.out.cell ts.length (by omega)
      go_wp2
      go_ret
      exact AnyB.mk_ rfl (below_then HB2.out HB2.out.size HB.out)
end Go.Proofs.Ytmckgcooehdbaaa
