/- The contract of Rune: it tells a rune and how many bytes it has, for every text that is not empty and has at most 100000 bytes. No condition beyond those that each theorem names. -/
import Derived.Test.YtmckgcooehdbaaaA1
set_option linter.unusedVariables false
set_option linter.unusedSimpArgs false
namespace Go.Proofs.Ytmckgcooehdbaaa
open Go.RowKit Go.Proofs.YtmckgcooehdbaaaW.PrintWords

/-- A rune, and how many bytes it has: at least one, and no more than there are. -/
def TellsR (s : ByteArray) (e : Ending) : Prop := ∃ r n : Int, e = .returned (.tuple #[.int .i64 r, .int .i64 n]) ∧ 1 ≤ n ∧ n ≤ s.size
theorem TellsR.mk_ (s : ByteArray) {e : Ending} {r n : Int} (he : e = .returned (.tuple #[.int .i64 r, .int .i64 n])) (h1 : 1 ≤ n) (h2 : n ≤ s.size) : TellsR s e := ⟨r, n, he, h1, h2⟩

set_option maxHeartbeats 2000000 in
theorem rune_any (s : ByteArray) (w : World) (h0 : 0 < s.size) (h1 : s.size ≤ 100000) : Calls Try.prog 52 #[.string s] w fun e w' => TellsR s e ∧ w = w' := by
  go_enter Try.func52, Try.ntmps52
  go_upto_region 1 with fail
  go_cut [4] (fun v4 wc => ∃ c : Int, v4 = .int .i64 c ∧ w = wc)
  case first =>
    go_wp2
    all_goals (go_meet; exact ⟨_, rfl, rfl⟩)
  obtain ⟨c, rfl, rfl⟩ := hcut
  go_upto_region 5 with fail
  go_cut [18] (fun v18 wc => ∃ b : Bool, v18 = .bool b ∧ w = wc)
  case first =>
    go_wp2
    all_goals (go_meet; exact ⟨_, rfl, rfl⟩)
  obtain ⟨b, rfl, rfl⟩ := hcut
  go_upto_if 18 with fail
  go_cut [5, 6, 7] (fun v5 v6 v7 wc => ∃ (n : Nat) (x l : Int), v5 = .int .i64 n ∧ v6 = .int .i64 x ∧ v7 = .int .i64 l ∧ 1 ≤ n ∧ n ≤ 4 ∧ w = wc)
  case first =>
    cases b
    all_goals go_wp2
    all_goals first
      | (go_meet; exact ⟨1, _, _, rfl, rfl, rfl, by omega, by omega, rfl⟩)
      | (go_meet; exact ⟨2, _, _, rfl, rfl, rfl, by omega, by omega, rfl⟩)
      | (go_meet; exact ⟨3, _, _, rfl, rfl, rfl, by omega, by omega, rfl⟩)
      | (go_meet; exact ⟨4, _, _, rfl, rfl, rfl, by omega, by omega, rfl⟩)
      | (go_ret2; exact ⟨TellsR.mk_ s rfl (by omega) (by omega), rfl⟩)
  case rest =>
    obtain ⟨n, x, l, rfl, rfl, rfl, hn1, hn4, rfl⟩ := hcut
    go_wp2
    · go_ret2; exact ⟨TellsR.mk_ s rfl (by omega) (by omega), rfl⟩
    · go_loop [6, 8] (fun v6 v8 => ∃ (k : Nat) (x : Int), v6 = .int .i64 x ∧ v8 = .int .i64 k ∧ 1 ≤ k ∧ k ≤ n) (fun _ v8 => n - (intOf v8).toNat)
      case atStart => exact ⟨1, _, rfl, rfl, by omega, by omega⟩
      case round =>
        obtain ⟨k, x, rfl, rfl, hk1, hk4⟩ := hrel
        by_cases hk : k < n
        · have hks : k < s.size := by omega
          go_wp2
          · go_ret2; exact ⟨TellsR.mk_ s rfl (by omega) (by omega), rfl⟩
          · go_round
            case rel => exact ⟨k + 1, _, rfl, by go_num, by omega, by omega⟩
            case measure => simp [intOf]; omega
        · go_wp2
          all_goals (go_ret2; exact ⟨TellsR.mk_ s rfl (by omega) (by omega), rfl⟩)
end Go.Proofs.Ytmckgcooehdbaaa
