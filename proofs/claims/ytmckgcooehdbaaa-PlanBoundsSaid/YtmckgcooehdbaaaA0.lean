/- The leaf functions of the plan statements: their contracts. -/
import Derived.Test.YtmckgcooehdbaaaProg
import Derived.Deep.Draws
import Derived.Deep.AppendLies
import Derived.Laws.BytesArg
import Derived.Deep.OwnRows
import Derived.Tactics
import Derived.Lib.ConvBytes
import Derived.WalkKit
import Derived.WalkSpells
import Derived.KernelRfl
import Derived.RowKit3
import Derived.Deep.LoopGhost
import Derived.Deep.QuietTactic
import Derived.BigQuiet
import Derived.Deep.DeepCutAuto
import Derived.Deep.RegionHeld3
import Derived.Lib.Hide
import Derived.Test.YtmckgcooehdbaaaWWords
set_option linter.unusedVariables false
set_option linter.unusedSimpArgs false
namespace Go.Proofs.Ytmckgcooehdbaaa
open Go.RowKit Go.Proofs.YtmckgcooehdbaaaW.PrintWords

/-- Rows of bytes by their order. -/
def lessB : List Int → List Int → Bool
  | [], [] => false
  | [], _ :: _ => true
  | _ :: _, [] => false
  | x :: xs, y :: ys => if x = y then lessB xs ys else decide (x < y)

theorem lessB_at (xs ys : List Int) (i : Nat) (hx : i < xs.length) (hy : i < ys.length) :
    lessB (xs.drop i) (ys.drop i) = if rd xs i = rd ys i then lessB (xs.drop (i + 1)) (ys.drop (i + 1)) else decide (rd xs i < rd ys i) := by
  rw [List.drop_eq_getElem_cons hx, List.drop_eq_getElem_cons hy]
  simp only [lessB, rd, Int.toNat_natCast, List.getD_eq_getElem?_getD, List.getElem?_eq_getElem hx, List.getElem?_eq_getElem hy, Option.getD_some]
theorem lessB_end (xs ys : List Int) (i : Nat) (h : ¬ (i < xs.length ∧ i < ys.length)) (hx : i ≤ xs.length) (hy : i ≤ ys.length) :
    lessB (xs.drop i) (ys.drop i) = decide (xs.length < ys.length) := by
  rcases Nat.lt_or_ge i xs.length with a | a
  · have b : ys.length ≤ i := by omega
    rw [List.drop_eq_getElem_cons a, List.drop_eq_nil_of_le b]
    simp only [lessB]; symm; simp; omega
  · rw [List.drop_eq_nil_of_le a]
    rcases Nat.lt_or_ge i ys.length with b | b
    · rw [List.drop_eq_getElem_cons b]; simp only [lessB]; symm; simp; omega
    · rw [List.drop_eq_nil_of_le b]; simp only [lessB]; symm; simp; omega

set_option maxHeartbeats 1000000 in
theorem less_any (A0 : Option Addr) (c0 : Nat) (xs : List Int) (A1 : Option Addr) (c1 : Nat) (ys : List Int) (w : World) (n0 n1 : Nat) (h0 : ReadsInt w .u8 A0 n0 xs) (h1 : ReadsInt w .u8 A1 n1 ys) :
    Calls Try.prog 13 #[.slice A0 n0 c0, .slice A1 n1 c1] w fun e w' => e = .returned (.bool (lessB xs ys)) ∧ Drawn0 w w' := by
  have e0 := h0.1
  have e1 := h1.1
  have m0 := h0.2.1
  have m1 := h1.2.1
  subst e0 e1
  have H0 := Lib.hid h0
  have H1 := Lib.hid h1
  clear h0 h1
  go_enter Try.func13, Try.ntmps13
  go_wp2
  go_loopw [5] (fun v5 wr => ∃ i : Nat, v5 = .int .i64 i ∧ i ≤ xs.length ∧ i ≤ ys.length ∧ Aside0 (lessB (xs.drop i) (ys.drop i) = lessB xs ys) ∧ Drawn0 w wr) (fun v5 _ => xs.length - (intOf v5).toNat)
  case atStart => exact ⟨0, rfl, Nat.zero_le _, Nat.zero_le _, ⟨rfl⟩, Drawn0.refl _⟩
  case round =>
    obtain ⟨i, rfl, hx, hy, HL, ⟨m, rfl⟩⟩ := hrel
    by_cases c : i < xs.length ∧ i < ys.length
    · obtain ⟨c0, c1⟩ := c
      obtain ⟨ad0, ea0, hc0⟩ := ReadsInt.at_ H0.out (i : Int) (by omega) (by omega)
      obtain ⟨ad1, ea1, hc1⟩ := ReadsInt.at_ H1.out (i : Int) (by omega) (by omega)
      subst ea0 ea1
      have hc0' : w.cell? (ad0.add i) = some (.int .u8 (rd xs i)) := hc0
      have hc1' : w.cell? (ad1.add i) = some (.int .u8 (rd ys i)) := hc1
      clear hc0 hc1
      by_cases d : rd xs i = rd ys i
      · have db : (rd xs i != rd ys i) = false := bne_eq_false_iff_eq.mpr d
        have L := lessB_at xs ys i c0 c1
        rw [if_pos d, HL.out] at L
        have L' := Aside0.mk L.symm
        clear d L
        go_wp2
        repeat (go_quiet (fail); try go_wp2)
        go_roundw
        case rel => exact ⟨i + 1, by go_num, by omega, by omega, L', by repeat (first | exact Drawn0.refl _ | apply Drawn0.step)⟩
        case measure => simp [intOf]; omega
      · have db : (rd xs i != rd ys i) = true := bne_iff_ne.mpr d
        have L := lessB_at xs ys i c0 c1
        rw [if_neg d, HL.out] at L
        have L' := Aside0.mk L.symm
        clear d L
        go_wp2
        repeat (go_quiet (fail); try go_wp2)
        go_ret
        exact ⟨by rw [← L'.out]; rfl, by repeat (first | exact Drawn0.refl _ | apply Drawn0.step)⟩
    · have L := lessB_end xs ys i c hx hy
      rw [HL.out] at L
      have L' := Aside0.mk L
      clear L
      by_cases d : i < xs.length
      · have d2 : ¬ i < ys.length := by omega
        go_wp2
        repeat (go_quiet (fail); try go_wp2)
        go_ret
        exact ⟨by rw [← L'.out]; rfl, by repeat (first | exact Drawn0.refl _ | apply Drawn0.step)⟩
      · go_wp2
        repeat (go_quiet (fail); try go_wp2)
        go_ret
        exact ⟨by rw [← L'.out]; rfl, by repeat (first | exact Drawn0.refl _ | apply Drawn0.step)⟩
end Go.Proofs.Ytmckgcooehdbaaa
