/- The contracts of Utf, Right and Name: each tells a truth; a name that is one has at most 32 bytes. No condition beyond those that each theorem names. -/
import Derived.Test.YtmckgcooehdbaaaA3
set_option linter.unusedVariables false
set_option linter.unusedSimpArgs false
namespace Go.Proofs.Ytmckgcooehdbaaa
open Go.RowKit Go.Proofs.YtmckgcooehdbaaaW.PrintWords

theorem TellsB.mk_ {e : Ending} {b : Bool} (h : e = .returned (.bool b)) : TellsB e := ⟨b, h⟩
theorem AnyB.mk_ {w w' : World} {e : Ending} {b : Bool} (h : e = .returned (.bool b)) (hb : Below w.heap.size w w') : AnyB w e w' := ⟨b, h, hb⟩

set_option maxHeartbeats 2000000 in
set_option maxRecDepth 100000 in
theorem utf_any (s : ByteArray) (w : World) (hs : s.size ≤ 100000) : Calls Try.prog 51 #[.string s] w fun e w' => TellsB e ∧ w = w' := by
  go_enter Try.func51, Try.ntmps51
  go_wp2
  go_loop [3] (fun v3 => ∃ i : Nat, v3 = .int .i64 i ∧ i ≤ s.size) (fun v3 => s.size - (intOf v3).toNat)
  case atStart => exact ⟨0, rfl, by omega⟩
  case round =>
    obtain ⟨i, rfl, hi⟩ := hrel
    by_cases hlt : i < s.size
    · have hz : (s.extract i s.size).size = s.size - i := by simp
      have Hz := Lib.hid hz
      clear hz
      go_wp2_with fail
      refine (rune_any _ _ (by rw [Hz.out]; omega) (by rw [Hz.out]; omega)).mono ?_
      rintro e w1 ⟨⟨r, n, rfl, hn1, hn2⟩, rfl⟩
      rw [Hz.out] at hn2
      go_wp2
      all_goals first
        | (go_ret; exact ⟨TellsB.mk_ rfl, rfl⟩)
        | (go_round
           case rel => exact ⟨i + n.toNat, by simp; omega, by omega⟩
           case measure => simp [intOf]; omega)
        | (go_round
           case rel => exact ⟨i + 1, by simp, by omega⟩
           case measure => simp [intOf]; omega)
    · go_wp2
      go_ret
      exact ⟨TellsB.mk_ rfl, rfl⟩

set_option maxHeartbeats 2000000 in
set_option maxRecDepth 100000 in
theorem right_any (s : ByteArray) (w : World) (hs : s.size ≤ 100000) : Calls Try.prog 45 #[.string s] w fun e w' => AnyB w e w' := by
  go_enter Try.func45, Try.ntmps45
  go_wp2_with fail
  refine (runes_any _ _ hs).mono ?_
  rintro e w1 ⟨v0, v1, rs, ats, rfl, HT, hl, hn⟩
  obtain ⟨A, c, rfl, hr⟩ := own_reads HT.first
  have HB := Lib.hid HT.below
  have HR := Lib.hid hr
  clear HT hr
  go_wp2
  go_loop [5] (fun v5 => ∃ i : Nat, v5 = .int .i64 i ∧ i ≤ rs.length) (fun v5 => rs.length - (intOf v5).toNat)
  case atStart => exact ⟨0, rfl, by omega⟩
  case round =>
    obtain ⟨i, rfl, hi⟩ := hrel
    by_cases hlt : i < rs.length
    · obtain ⟨ad, ea, hc0⟩ := ReadsInt.at_ HR.out (i : Int) (by omega) (by omega)
      subst ea
      have hc : w1.cell? (ad.add i) = some (.int .i64 (rd rs i)) := hc0
      clear hc0
      generalize rd rs (i : Int) = x at hc
      go_wp2
      all_goals first
        | (go_ret; exact AnyB.mk_ rfl HB.out)
        | (go_round
           case rel => exact ⟨i + 1, by go_num, by omega⟩
           case measure => simp [intOf]; omega)
    · go_wp2_with fail
      refine (utf_any _ _ hs).mono ?_
      rintro e w1 ⟨⟨b, rfl⟩, rfl⟩
      go_wp2
      go_ret
      exact AnyB.mk_ rfl HB.out

def TellsN (s : ByteArray) (w : World) (e : Ending) (w' : World) : Prop := ∃ b : Bool, e = .returned (.bool b) ∧ (b = true → s.size ≤ 32) ∧ Below w.heap.size w w'
theorem TellsN.mk_ {s : ByteArray} {w w' : World} {e : Ending} {b : Bool} (h : e = .returned (.bool b)) (hb : Below w.heap.size w w') (hs : b = true → s.size ≤ 32) : TellsN s w e w' := ⟨b, h, hs, hb⟩
set_option maxHeartbeats 2000000 in
set_option maxRecDepth 100000 in
theorem name_any (s : ByteArray) (w : World) : Calls Try.prog 31 #[.string s] w fun e w' => TellsN s w e w' := by
  go_enter Try.func31, Try.ntmps31
  by_cases h : 1 ≤ s.size ∧ s.size ≤ 32
  · obtain ⟨h1, h2⟩ := h
    go_wp2_with fail
    refine (right_any _ _ (by omega)).mono ?_
    rintro e w1 ⟨b, rfl, HB⟩
    go_wp2
    go_ret
    exact TellsN.mk_ rfl HB (fun _ => h2)
  · by_cases h1 : 1 ≤ s.size
    · have h2 : ¬ s.size ≤ 32 := by omega
      go_wp2
      go_ret
      exact TellsN.mk_ rfl (Below.refl _ _) (fun h => by cases h)
    · go_wp2
      go_ret
      exact TellsN.mk_ rfl (Below.refl _ _) (fun h => by cases h)
end Go.Proofs.Ytmckgcooehdbaaa
