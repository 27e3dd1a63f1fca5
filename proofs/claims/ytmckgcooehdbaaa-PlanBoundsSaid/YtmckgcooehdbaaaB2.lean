/- The contract of slices.Concat of two rows. No condition beyond those that each theorem names. -/
import Derived.Test.YtmckgcooehdbaaaB1
set_option linter.unusedVariables false
set_option linter.unusedSimpArgs false
namespace Go.Proofs.Ytmckgcooehdbaaa
open Go.RowKit Go.Proofs.YtmckgcooehdbaaaW.PrintWords

set_option maxHeartbeats 4000000 in
set_option maxRecDepth 100000 in
theorem concat_any (g : Nat) (A0 : Option Addr) (n0 c0 : Nat) (xs : List Int) (A1 : Option Addr) (n1 c1 : Nat) (ys : List Int) (w : World) (hc0 : w.cell? ⟨g, 0, none⟩ = some (.slice A0 n0 c0)) (hc1 : w.cell? ⟨g, 1, none⟩ = some (.slice A1 n1 c1))
    (h0 : ReadsInt w .u8 A0 n0 xs) (h1 : ReadsInt w .u8 A1 n1 ys) (hn0 : n0 ≤ 1000000) (hn1 : n1 ≤ 1000000) :
    Calls Try.prog 37 #[.slice (some ⟨g, 0, none⟩) 2 2] w fun e w' => TellsBytes (· = xs ++ ys) w e w' := by
  have HR0 := Lib.hid h0
  have HR1 := Lib.hid h1
  clear h0 h1
  have l0 := HR0.out.1
  have l1 := HR1.out.1
  have L0 := Lib.hid l0
  have L1 := Lib.hid l1
  clear l0 l1
  go_enter Try.func37, Try.ntmps37
  go_wp2
  refine wp_loop_rounds 3 ?_
  rw [rounds_succ]
  go_wp2
  rw [rounds_succ]
  go_wp2
  rw [rounds_succ]
  go_wp2_with fail
  have e01 : (n0 : Int) + n1 = ((n0 + n1 : Nat) : Int) := by omega
  rw [e01]
  refine (grow_any (n0 + n1) _ (by omega)).mono ?_
  rintro e w1 ⟨v1, zs, rfl, ho, rfl, hb⟩
  have HO := Lib.hid ho
  have HB := Lib.hid hb
  have g0 := pw_cell_below hb hc0
  have g1 := pw_cell_below hb hc1
  have HC1 := Lib.hid hc1
  clear ho hb hc0 hc1 e01
  go_wp2
  refine wp_loop_rounds 3 ?_
  rw [rounds_succ]
  go_wp2_with (at_builtin; refine print_append_row (w0 := w) w.heap.size rfl (.tmp 31) (.tmp 32) 36 5 .u8 1 rfl Try.underlying36 info5 (by decide) v1 [] xs A0 n0 c0 rfl rfl HO.out (HR0.out.below HB.out) HB.out HB.out.size (by simp; omega) ?_)
  intro v2 w2 ho2 hb2 hg2 hv2
  have HO2 : Hid (OwnB w2 w.heap.size v2 xs) := by
    have h := ho2
    simpa [OwnB, Hid, L0.out] using h
  have HB2 := Lib.hid hb2
  have g1 := pw_cell_below hb2 HC1.out
  clear ho2 hb2 hg2 hv2 HO HB
  go_wp2
  rw [rounds_succ]
  go_wp2_with (at_builtin; refine print_append_row (w0 := w) w.heap.size rfl (.tmp 31) (.tmp 32) 36 5 .u8 1 rfl Try.underlying36 info5 (by decide) v2 xs ys A1 n1 c1 rfl rfl HO2.out (HR1.out.below HB2.out) HB2.out HB2.out.size (by have := L0.out; omega) ?_)
  intro v3 w3 ho3 hb3 hg3 hv3
  have HO3 : Hid (OwnB w3 w.heap.size v3 (xs ++ ys)) := by
    have h := ho3
    simpa [OwnB, Hid, L0.out, L1.out] using h
  have HB3 := Lib.hid hb3
  clear ho3 hb3 hg3 hv3 HO2 HB2
  go_wp2
  rw [rounds_succ]
  go_wp2
  go_ret
  exact TellsBytes.mk_ rfl HO3.out rfl HB3.out
end Go.Proofs.Ytmckgcooehdbaaa
