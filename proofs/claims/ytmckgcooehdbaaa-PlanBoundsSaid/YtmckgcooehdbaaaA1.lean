/- Contracts of text2, number, Letter and time: what each tells, for every argument. No condition beyond those that each theorem names. -/
import Derived.Test.YtmckgcooehdbaaaA0
set_option linter.unusedVariables false
set_option linter.unusedSimpArgs false
namespace Go.Proofs.Ytmckgcooehdbaaa
open Go.RowKit Go.Proofs.YtmckgcooehdbaaaW.PrintWords

/-- Some bool is told; of the world nothing that was there has turned. -/
def AnyB (w : World) (e : Ending) (w' : World) : Prop := ∃ b : Bool, e = .returned (.bool b) ∧ Below w.heap.size w w'

theorem text2_any (s : ByteArray) (w : World) : Calls Try.prog 29 #[.string s] w fun e w' => e = .returned (.bool (s.toList == [115, 101, 114, 118, 105, 99, 101] || s.toList == [111, 112])) ∧ w = w' := by
  go_enter Try.func29, Try.ntmps29
  go_wp2
  all_goals (go_ret; exact ⟨by simp [*], rfl⟩)

theorem numberT_any (s : ByteArray) (w : World) : Calls Try.prog 30 #[.string s] w fun e w' => e = .returned (.bool (s.toList == [115, 116, 97, 116, 117, 115] || s.toList == [100, 117, 114] || s.toList == [115, 116, 97, 114, 116] || s.toList == [116, 114, 97, 99, 101] || s.toList == [105, 100] || s.toList == [112, 97, 114, 101, 110, 116])) ∧ w = w' := by
  go_enter Try.func30, Try.ntmps30
  go_wp2
  all_goals (go_ret; exact ⟨by simp [*], rfl⟩)

/-- Some bool is told. -/
def TellsB (e : Ending) : Prop := ∃ b : Bool, e = .returned (.bool b)
theorem letter_any (n : Int) (w : World) : Calls Try.prog 47 #[.int .i64 n] w fun e w' => TellsB e ∧ w = w' := by
  go_enter Try.func47, Try.ntmps47
  go_wp2
  all_goals (go_ret; exact ⟨⟨_, rfl⟩, rfl⟩)

theorem time_any (n : Int) (w : World) : Calls Try.prog 36 #[.int .i64 n] w fun e w' => e = .returned (.bool (decide (0 ≤ n ∧ n ≤ 1152921504606846976))) ∧ w = w' := by
  go_enter Try.func36, Try.ntmps36
  go_wp2
  all_goals (go_ret; exact ⟨by first | (simp [*]; done) | (simp; omega), rfl⟩)

end Go.Proofs.Ytmckgcooehdbaaa
