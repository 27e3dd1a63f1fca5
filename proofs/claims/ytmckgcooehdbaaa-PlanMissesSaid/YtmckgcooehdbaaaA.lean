/- The leaf functions of the plan statements: their contracts and what follows: 10 texts in one. No condition beyond those that each theorem names. -/
import Derived.Test.YtmckgcooehdbaaaProg
import Derived.Deep.Draws
import Derived.Deep.AppendLies
import Derived.Laws.BytesArg
import Derived.Deep.OwnRows
import Derived.Tactics
import Derived.Lib.ConvBytes
import Derived.WalkKit
import Derived.WalkSpells
import Derived.KernelRfl
import Derived.RowKit3
import Derived.Deep.LoopGhost
import Derived.Deep.QuietTactic
import Derived.BigQuiet
import Derived.Deep.DeepCutAuto
import Derived.Deep.RegionHeld3
import Derived.Lib.Hide
import Derived.Test.YtmckgcooehdbaaaWWords
import Derived.StillTactics
import Derived.RegionTactic
import Derived.ChangeAlike
/-! The leaf functions of the plan statements: their contracts. -/
set_option linter.unusedVariables false
set_option linter.unusedSimpArgs false
namespace Go.Proofs.Ytmckgcooehdbaaa
open Go.RowKit Go.Proofs.YtmckgcooehdbaaaW.PrintWords

/-- Rows of bytes by their order. -/
def lessB : List Int → List Int → Bool
  | [], [] => false
  | [], _ :: _ => true
  | _ :: _, [] => false
  | x :: xs, y :: ys => if x = y then lessB xs ys else decide (x < y)

theorem lessB_at (xs ys : List Int) (i : Nat) (hx : i < xs.length) (hy : i < ys.length) :
    lessB (xs.drop i) (ys.drop i) = if rd xs i = rd ys i then lessB (xs.drop (i + 1)) (ys.drop (i + 1)) else decide (rd xs i < rd ys i) := by
  rw [List.drop_eq_getElem_cons hx, List.drop_eq_getElem_cons hy]
  simp only [lessB, rd, Int.toNat_natCast, List.getD_eq_getElem?_getD, List.getElem?_eq_getElem hx, List.getElem?_eq_getElem hy, Option.getD_some]
theorem lessB_end (xs ys : List Int) (i : Nat) (h : ¬ (i < xs.length ∧ i < ys.length)) (hx : i ≤ xs.length) (hy : i ≤ ys.length) :
    lessB (xs.drop i) (ys.drop i) = decide (xs.length < ys.length) := by
  rcases Nat.lt_or_ge i xs.length with a | a
  · have b : ys.length ≤ i := by omega
    rw [List.drop_eq_getElem_cons a, List.drop_eq_nil_of_le b]
    simp only [lessB]; symm; simp; omega
  · rw [List.drop_eq_nil_of_le a]
    rcases Nat.lt_or_ge i ys.length with b | b
    · rw [List.drop_eq_getElem_cons b]; simp only [lessB]; symm; simp; omega
    · rw [List.drop_eq_nil_of_le b]; simp only [lessB]; symm; simp; omega

set_option maxHeartbeats 1000000 in
theorem less_any (A0 : Option Addr) (c0 : Nat) (xs : List Int) (A1 : Option Addr) (c1 : Nat) (ys : List Int) (w : World) (n0 n1 : Nat) (h0 : ReadsInt w .u8 A0 n0 xs) (h1 : ReadsInt w .u8 A1 n1 ys) :
    Calls Try.prog 13 #[.slice A0 n0 c0, .slice A1 n1 c1] w fun e w' => e = .returned (.bool (lessB xs ys)) ∧ Drawn0 w w' := by
  have e0 := h0.1
  have e1 := h1.1
  have m0 := h0.2.1
  have m1 := h1.2.1
  subst e0 e1
  have H0 := Lib.hid h0
  have H1 := Lib.hid h1
  clear h0 h1
  go_enter Try.func13, Try.ntmps13
  go_wp2
  go_loopw [5] (fun v5 wr => ∃ i : Nat, v5 = .int .i64 i ∧ i ≤ xs.length ∧ i ≤ ys.length ∧ Aside0 (lessB (xs.drop i) (ys.drop i) = lessB xs ys) ∧ Drawn0 w wr) (fun v5 _ => xs.length - (intOf v5).toNat)
  case atStart => exact ⟨0, rfl, Nat.zero_le _, Nat.zero_le _, ⟨rfl⟩, Drawn0.refl _⟩
  case round =>
    obtain ⟨i, rfl, hx, hy, HL, ⟨m, rfl⟩⟩ := hrel
    by_cases c : i < xs.length ∧ i < ys.length
    · obtain ⟨c0, c1⟩ := c
      obtain ⟨ad0, ea0, hc0⟩ := ReadsInt.at_ H0.out (i : Int) (by omega) (by omega)
      obtain ⟨ad1, ea1, hc1⟩ := ReadsInt.at_ H1.out (i : Int) (by omega) (by omega)
      subst ea0 ea1
      have hc0' : w.cell? (ad0.add i) = some (.int .u8 (rd xs i)) := hc0
      have hc1' : w.cell? (ad1.add i) = some (.int .u8 (rd ys i)) := hc1
      clear hc0 hc1
      by_cases d : rd xs i = rd ys i
      · have db : (rd xs i != rd ys i) = false := bne_eq_false_iff_eq.mpr d
        have L := lessB_at xs ys i c0 c1
        rw [if_pos d, HL.out] at L
        have L' := Aside0.mk L.symm
        clear d L
        go_wp2
        repeat (go_quiet (fail); try go_wp2)
        go_roundw
        case rel => exact ⟨i + 1, by go_num, by omega, by omega, L', by repeat (first | exact Drawn0.refl _ | apply Drawn0.step)⟩
        case measure => simp [intOf]; omega
      · have db : (rd xs i != rd ys i) = true := bne_iff_ne.mpr d
        have L := lessB_at xs ys i c0 c1
        rw [if_neg d, HL.out] at L
        have L' := Aside0.mk L.symm
        clear d L
        go_wp2
        repeat (go_quiet (fail); try go_wp2)
        go_ret
        exact ⟨by rw [← L'.out]; rfl, by repeat (first | exact Drawn0.refl _ | apply Drawn0.step)⟩
    · have L := lessB_end xs ys i c hx hy
      rw [HL.out] at L
      have L' := Aside0.mk L
      clear L
      by_cases d : i < xs.length
      · have d2 : ¬ i < ys.length := by omega
        go_wp2
        repeat (go_quiet (fail); try go_wp2)
        go_ret
        exact ⟨by rw [← L'.out]; rfl, by repeat (first | exact Drawn0.refl _ | apply Drawn0.step)⟩
      · go_wp2
        repeat (go_quiet (fail); try go_wp2)
        go_ret
        exact ⟨by rw [← L'.out]; rfl, by repeat (first | exact Drawn0.refl _ | apply Drawn0.step)⟩
end Go.Proofs.Ytmckgcooehdbaaa
/-! Contracts of text2, number, Letter and time: what each tells, for every argument. No condition beyond those that each theorem names. -/
set_option linter.unusedVariables false
set_option linter.unusedSimpArgs false
namespace Go.Proofs.Ytmckgcooehdbaaa
open Go.RowKit Go.Proofs.YtmckgcooehdbaaaW.PrintWords

/-- Some bool is told; of the world nothing that was there has turned. -/
def AnyB (w : World) (e : Ending) (w' : World) : Prop := ∃ b : Bool, e = .returned (.bool b) ∧ Below w.heap.size w w'

theorem text2_any (s : ByteArray) (w : World) : Calls Try.prog 29 #[.string s] w fun e w' => e = .returned (.bool (s.toList == [115, 101, 114, 118, 105, 99, 101] || s.toList == [111, 112])) ∧ w = w' := by
  go_enter Try.func29, Try.ntmps29
  go_wp2
  all_goals (go_ret; exact ⟨by simp [*], rfl⟩)

theorem numberT_any (s : ByteArray) (w : World) : Calls Try.prog 30 #[.string s] w fun e w' => e = .returned (.bool (s.toList == [115, 116, 97, 116, 117, 115] || s.toList == [100, 117, 114] || s.toList == [115, 116, 97, 114, 116] || s.toList == [116, 114, 97, 99, 101] || s.toList == [105, 100] || s.toList == [112, 97, 114, 101, 110, 116])) ∧ w = w' := by
  go_enter Try.func30, Try.ntmps30
  go_wp2
  all_goals (go_ret; exact ⟨by simp [*], rfl⟩)

/-- Some bool is told. -/
def TellsB (e : Ending) : Prop := ∃ b : Bool, e = .returned (.bool b)
theorem letter_any (n : Int) (w : World) : Calls Try.prog 47 #[.int .i64 n] w fun e w' => TellsB e ∧ w = w' := by
  go_enter Try.func47, Try.ntmps47
  go_wp2
  all_goals (go_ret; exact ⟨⟨_, rfl⟩, rfl⟩)

theorem time_any (n : Int) (w : World) : Calls Try.prog 36 #[.int .i64 n] w fun e w' => e = .returned (.bool (decide (0 ≤ n ∧ n ≤ 1152921504606846976))) ∧ w = w' := by
  go_enter Try.func36, Try.ntmps36
  go_wp2
  all_goals (go_ret; exact ⟨by first | (simp [*]; done) | (simp; omega), rfl⟩)

end Go.Proofs.Ytmckgcooehdbaaa
/-! The contract of Rune: it tells a rune and how many bytes it has, for every text that is not empty and has at most 100000 bytes. No condition beyond those that each theorem names. -/
set_option linter.unusedVariables false
set_option linter.unusedSimpArgs false
namespace Go.Proofs.Ytmckgcooehdbaaa
open Go.RowKit Go.Proofs.YtmckgcooehdbaaaW.PrintWords

/-- A rune, and how many bytes it has: at least one, and no more than there are. -/
def TellsR (s : ByteArray) (e : Ending) : Prop := ∃ r n : Int, e = .returned (.tuple #[.int .i64 r, .int .i64 n]) ∧ 1 ≤ n ∧ n ≤ s.size
theorem TellsR.mk_ (s : ByteArray) {e : Ending} {r n : Int} (he : e = .returned (.tuple #[.int .i64 r, .int .i64 n])) (h1 : 1 ≤ n) (h2 : n ≤ s.size) : TellsR s e := ⟨r, n, he, h1, h2⟩

set_option maxHeartbeats 2000000 in
theorem rune_any (s : ByteArray) (w : World) (h0 : 0 < s.size) (h1 : s.size ≤ 100000) : Calls Try.prog 52 #[.string s] w fun e w' => TellsR s e ∧ w = w' := by
  go_enter Try.func52, Try.ntmps52
  go_upto_region 1 with fail
  go_cut [4] (fun v4 wc => ∃ c : Int, v4 = .int .i64 c ∧ w = wc)
  case first =>
    go_wp2
    all_goals (go_meet; exact ⟨_, rfl, rfl⟩)
  obtain ⟨c, rfl, rfl⟩ := hcut
  go_upto_region 5 with fail
  go_cut [18] (fun v18 wc => ∃ b : Bool, v18 = .bool b ∧ w = wc)
  case first =>
    go_wp2
    all_goals (go_meet; exact ⟨_, rfl, rfl⟩)
  obtain ⟨b, rfl, rfl⟩ := hcut
  go_upto_if 18 with fail
  go_cut [5, 6, 7] (fun v5 v6 v7 wc => ∃ (n : Nat) (x l : Int), v5 = .int .i64 n ∧ v6 = .int .i64 x ∧ v7 = .int .i64 l ∧ 1 ≤ n ∧ n ≤ 4 ∧ w = wc)
  case first =>
    cases b
    all_goals go_wp2
    all_goals first
      | (go_meet; exact ⟨1, _, _, rfl, rfl, rfl, by omega, by omega, rfl⟩)
      | (go_meet; exact ⟨2, _, _, rfl, rfl, rfl, by omega, by omega, rfl⟩)
      | (go_meet; exact ⟨3, _, _, rfl, rfl, rfl, by omega, by omega, rfl⟩)
      | (go_meet; exact ⟨4, _, _, rfl, rfl, rfl, by omega, by omega, rfl⟩)
      | (go_ret2; exact ⟨TellsR.mk_ s rfl (by omega) (by omega), rfl⟩)
  case rest =>
    obtain ⟨n, x, l, rfl, rfl, rfl, hn1, hn4, rfl⟩ := hcut
    go_wp2
    · go_ret2; exact ⟨TellsR.mk_ s rfl (by omega) (by omega), rfl⟩
    · go_loop [6, 8] (fun v6 v8 => ∃ (k : Nat) (x : Int), v6 = .int .i64 x ∧ v8 = .int .i64 k ∧ 1 ≤ k ∧ k ≤ n) (fun _ v8 => n - (intOf v8).toNat)
      case atStart => exact ⟨1, _, rfl, rfl, by omega, by omega⟩
      case round =>
        obtain ⟨k, x, rfl, rfl, hk1, hk4⟩ := hrel
        by_cases hk : k < n
        · have hks : k < s.size := by omega
          go_wp2
          · go_ret2; exact ⟨TellsR.mk_ s rfl (by omega) (by omega), rfl⟩
          · go_round
            case rel => exact ⟨k + 1, _, rfl, by go_num, by omega, by omega⟩
            case measure => simp [intOf]; omega
        · go_wp2
          all_goals (go_ret2; exact ⟨TellsR.mk_ s rfl (by omega) (by omega), rfl⟩)
end Go.Proofs.Ytmckgcooehdbaaa
/-! The contract of Runes: two rows of one length, for every text of at most 100000 bytes. No condition beyond those that each theorem names. -/
set_option linter.unusedVariables false
set_option linter.unusedSimpArgs false
namespace Go.Proofs.Ytmckgcooehdbaaa
open Go.RowKit Go.Proofs.YtmckgcooehdbaaaW.PrintWords

theorem info3 : (Try.prog.info? 3).map (fun i => (i.zero, i.size, i.bytes)) = some (some (.int .i64 0), 1, 8) := by kernel_rfl
theorem info5 : (Try.prog.info? 5).map (fun i => (i.zero, i.size, i.bytes)) = some (some (.int .u8 0), 1, 1) := by kernel_rfl

/-- Two rows of numbers of the call's own. -/
def TwoRows (w : World) (w' : World) (v0 v1 : Value) (rs ats : List Int) : Prop :=
  w'.ownsRow w.heap.size 3 1 v0 rs.length (nums .i64 rs) ∧ w'.ownsRow w.heap.size 3 1 v1 ats.length (nums .i64 ats) ∧ (v0.ownBlock = none ∨ v0.ownBlock ≠ v1.ownBlock) ∧ Below w.heap.size w w'
def TellsRunes (s : ByteArray) (w : World) (e : Ending) (w' : World) : Prop :=
  ∃ v0 v1 rs ats, e = .returned (.tuple #[v0, v1]) ∧ TwoRows w w' v0 v1 rs ats ∧ rs.length = ats.length ∧ rs.length ≤ s.size

theorem TwoRows.refl (w : World) : TwoRows w w (.slice none 0 0) (.slice none 0 0) [] [] :=
  ⟨own_nil w _ _ _, own_nil w _ _ _, .inl rfl, Below.refl _ _⟩
/-- The first row has grown. -/
theorem TwoRows.one {w W w1 : World} {v0 v1 v : Value} {rs ats rs1 : List Int} (h : TwoRows w W v0 v1 rs ats) (hb : w.heap.size ≤ W.heap.size)
    (hown : w1.ownsRow w.heap.size 3 1 v rs1.length (nums .i64 rs1)) (hB : Below w.heap.size w w1) (hg : W.grownBy w1 v0.ownBlock) (hv : v.ownBlock = v0.ownBlock ∨ ∃ b, v.ownBlock = some b ∧ W.heap.size ≤ b) : TwoRows w w1 v v1 rs1 ats := by
  obtain ⟨h0, h1, hd, hB0⟩ := h
  refine ⟨hown, own_other h1 hg ?_, ?_, hB⟩
  · rcases hd with hd | hd
    · rw [hd]; cases v1.ownBlock <;> simp
    · exact .inr (Ne.symm hd)
  · rcases hv with hv | ⟨b, hv, hlt⟩
    · rw [hv]; exact hd
    · refine .inr ?_
      rw [hv]
      intro he
      have := own_lt h1 b he.symm
      omega
theorem TwoRows.two {w W w1 : World} {v0 v1 v : Value} {rs ats ats1 : List Int} (h : TwoRows w W v0 v1 rs ats) (hb : w.heap.size ≤ W.heap.size)
    (hown : w1.ownsRow w.heap.size 3 1 v ats1.length (nums .i64 ats1)) (hB : Below w.heap.size w w1) (hg : W.grownBy w1 v1.ownBlock) (hv : v.ownBlock = v1.ownBlock ∨ ∃ b, v.ownBlock = some b ∧ W.heap.size ≤ b) : TwoRows w w1 v0 v rs ats1 := by
  obtain ⟨h0, h1, hd, hB0⟩ := h
  refine ⟨own_other h0 hg ?_, hown, ?_, hB⟩
  · exact hd
  · rcases hv with hv | ⟨b, hv, hlt⟩
    · rw [hv]; exact hd
    · rcases hd with hd | hd
      · exact .inl hd
      · refine .inr ?_
        rw [hv]
        intro he
        have := own_lt h0 b he
        omega
theorem TwoRows.first {w W : World} {v0 v1 : Value} {rs ats : List Int} (h : TwoRows w W v0 v1 rs ats) : W.ownsRow w.heap.size 3 1 v0 rs.length (nums .i64 rs) := h.1
theorem TwoRows.second {w W : World} {v0 v1 : Value} {rs ats : List Int} (h : TwoRows w W v0 v1 rs ats) : W.ownsRow w.heap.size 3 1 v1 ats.length (nums .i64 ats) := h.2.1
theorem TwoRows.below {w W : World} {v0 v1 : Value} {rs ats : List Int} (h : TwoRows w W v0 v1 rs ats) : Below w.heap.size w W := h.2.2.2

set_option maxHeartbeats 2000000 in
set_option maxRecDepth 100000 in
theorem runes_any (s : ByteArray) (w : World) (hs : s.size ≤ 100000) : Calls Try.prog 46 #[.string s] w fun e w' => TellsRunes s w e w' := by
  go_enter Try.func46, Try.ntmps46
  go_wp2
  go_loopw [4, 5, 6] (fun v4 v5 v6 wr => ∃ (i : Nat) (rs ats : List Int), v6 = .int .i64 i ∧ i ≤ s.size ∧ rs.length ≤ i ∧ Aside0 (rs.length = ats.length) ∧ Aside0 (TwoRows w wr v4 v5 rs ats)) (fun _ _ v6 _ => s.size - (intOf v6).toNat)
  case atStart => exact ⟨0, [], [], rfl, by omega, by simp, ⟨rfl⟩, ⟨TwoRows.refl w⟩⟩
  case round =>
    obtain ⟨i, rs, ats, rfl, hi, hrs, HL, HT⟩ := hrel
    by_cases hlt : i < s.size
    · have hz : (s.extract i s.size).size = s.size - i := by simp
      have Hz := Lib.hid hz
      clear hz
      go_wp2_with fail
      refine (rune_any _ _ (by rw [Hz.out]; omega) (by rw [Hz.out]; omega)).mono ?_
      rintro e w1 ⟨⟨r, n, rfl, hn1, hn2⟩, rfl⟩
      rw [Hz.out] at hn2
      go_wp2_with (at_builtin; refine print_append_num (w0 := w) w.heap.size rfl (.tmp 20) (.tmp 22) 83 3 .i64 8 rfl Try.underlying83 info3 (by decide) u4 rs r rfl rfl HT.out.first HT.out.below HT.out.below.size (by omega) ?_)
      intro va wa ha1 ha2 ha3 ha4
      have HA := Lib.hid (HT.out.one (rs1 := rs ++ [r]) HT.out.below.size (by simpa using ha1) ha2 ha3 ha4)
      have hwa := ha2.size
      clear ha1 ha2 ha3 ha4 HT
      go_wp2_with (at_builtin; refine print_append_num (w0 := w) w.heap.size rfl (.tmp 24) (.tmp 26) 83 3 .i64 8 rfl Try.underlying83 info3 (by decide) u5 ats (i : Int) rfl rfl HA.out.second HA.out.below hwa (by have := HL.out; omega) ?_)
      intro vb wb ha1 ha2 ha3 ha4
      have HB := Aside0.mk (HA.out.two (ats1 := ats ++ [(i : Int)]) hwa (by simpa using ha1) ha2 ha3 ha4)
      clear ha1 ha2 ha3 ha4 HA
      have HLn : Aside0 ((rs ++ [r]).length = (ats ++ [(i : Int)]).length) := ⟨by simp [HL.out]⟩
      have hl1 : (rs ++ [r]).length ≤ i + n.toNat := by simp; omega
      clear HL
      go_wp2
      go_roundw
      case rel => exact ⟨i + n.toNat, rs ++ [r], ats ++ [(i : Int)], by simp; omega, by omega, hl1, HLn, HB⟩
      case measure => simp [intOf]; omega
    · go_wp2
      go_ret2
      exact ⟨_, _, rs, ats, rfl, HT.out, HL.out, by omega⟩
end Go.Proofs.Ytmckgcooehdbaaa
/-! The contracts of Utf, Right and Name: each tells a truth; a name that is one has at most 32 bytes. No condition beyond those that each theorem names. -/
set_option linter.unusedVariables false
set_option linter.unusedSimpArgs false
namespace Go.Proofs.Ytmckgcooehdbaaa
open Go.RowKit Go.Proofs.YtmckgcooehdbaaaW.PrintWords

theorem TellsB.mk_ {e : Ending} {b : Bool} (h : e = .returned (.bool b)) : TellsB e := ⟨b, h⟩
theorem AnyB.mk_ {w w' : World} {e : Ending} {b : Bool} (h : e = .returned (.bool b)) (hb : Below w.heap.size w w') : AnyB w e w' := ⟨b, h, hb⟩

set_option maxHeartbeats 2000000 in
set_option maxRecDepth 100000 in
theorem utf_any (s : ByteArray) (w : World) (hs : s.size ≤ 100000) : Calls Try.prog 51 #[.string s] w fun e w' => TellsB e ∧ w = w' := by
  go_enter Try.func51, Try.ntmps51
  go_wp2
  go_loop [3] (fun v3 => ∃ i : Nat, v3 = .int .i64 i ∧ i ≤ s.size) (fun v3 => s.size - (intOf v3).toNat)
  case atStart => exact ⟨0, rfl, by omega⟩
  case round =>
    obtain ⟨i, rfl, hi⟩ := hrel
    by_cases hlt : i < s.size
    · have hz : (s.extract i s.size).size = s.size - i := by simp
      have Hz := Lib.hid hz
      clear hz
      go_wp2_with fail
      refine (rune_any _ _ (by rw [Hz.out]; omega) (by rw [Hz.out]; omega)).mono ?_
      rintro e w1 ⟨⟨r, n, rfl, hn1, hn2⟩, rfl⟩
      rw [Hz.out] at hn2
      go_wp2
      all_goals first
        | (go_ret; exact ⟨TellsB.mk_ rfl, rfl⟩)
        | (go_round
           case rel => exact ⟨i + n.toNat, by simp; omega, by omega⟩
           case measure => simp [intOf]; omega)
        | (go_round
           case rel => exact ⟨i + 1, by simp, by omega⟩
           case measure => simp [intOf]; omega)
    · go_wp2
      go_ret
      exact ⟨TellsB.mk_ rfl, rfl⟩

set_option maxHeartbeats 2000000 in
set_option maxRecDepth 100000 in
theorem right_any (s : ByteArray) (w : World) (hs : s.size ≤ 100000) : Calls Try.prog 45 #[.string s] w fun e w' => AnyB w e w' := by
  go_enter Try.func45, Try.ntmps45
  go_wp2_with fail
  refine (runes_any _ _ hs).mono ?_
  rintro e w1 ⟨v0, v1, rs, ats, rfl, HT, hl, hn⟩
  obtain ⟨A, c, rfl, hr⟩ := own_reads HT.first
  have HB := Lib.hid HT.below
  have HR := Lib.hid hr
  clear HT hr
  go_wp2
  go_loop [5] (fun v5 => ∃ i : Nat, v5 = .int .i64 i ∧ i ≤ rs.length) (fun v5 => rs.length - (intOf v5).toNat)
  case atStart => exact ⟨0, rfl, by omega⟩
  case round =>
    obtain ⟨i, rfl, hi⟩ := hrel
    by_cases hlt : i < rs.length
    · obtain ⟨ad, ea, hc0⟩ := ReadsInt.at_ HR.out (i : Int) (by omega) (by omega)
      subst ea
      have hc : w1.cell? (ad.add i) = some (.int .i64 (rd rs i)) := hc0
      clear hc0
      generalize rd rs (i : Int) = x at hc
      go_wp2
      all_goals first
        | (go_ret; exact AnyB.mk_ rfl HB.out)
        | (go_round
           case rel => exact ⟨i + 1, by go_num, by omega⟩
           case measure => simp [intOf]; omega)
    · go_wp2_with fail
      refine (utf_any _ _ hs).mono ?_
      rintro e w1 ⟨⟨b, rfl⟩, rfl⟩
      go_wp2
      go_ret
      exact AnyB.mk_ rfl HB.out

def TellsN (s : ByteArray) (w : World) (e : Ending) (w' : World) : Prop := ∃ b : Bool, e = .returned (.bool b) ∧ (b = true → s.size ≤ 32) ∧ Below w.heap.size w w'
theorem TellsN.mk_ {s : ByteArray} {w w' : World} {e : Ending} {b : Bool} (h : e = .returned (.bool b)) (hb : Below w.heap.size w w') (hs : b = true → s.size ≤ 32) : TellsN s w e w' := ⟨b, h, hs, hb⟩
set_option maxHeartbeats 2000000 in
set_option maxRecDepth 100000 in
theorem name_any (s : ByteArray) (w : World) : Calls Try.prog 31 #[.string s] w fun e w' => TellsN s w e w' := by
  go_enter Try.func31, Try.ntmps31
  by_cases h : 1 ≤ s.size ∧ s.size ≤ 32
  · obtain ⟨h1, h2⟩ := h
    go_wp2_with fail
    refine (right_any _ _ (by omega)).mono ?_
    rintro e w1 ⟨b, rfl, HB⟩
    go_wp2
    go_ret
    exact TellsN.mk_ rfl HB (fun _ => h2)
  · by_cases h1 : 1 ≤ s.size
    · have h2 : ¬ s.size ≤ 32 := by omega
      go_wp2
      go_ret
      exact TellsN.mk_ rfl (Below.refl _ _) (fun h => by cases h)
    · go_wp2
      go_ret
      exact TellsN.mk_ rfl (Below.refl _ _) (fun h => by cases h)
end Go.Proofs.Ytmckgcooehdbaaa
/-! The contracts of Value and lead, for every value and every text of at most 100000 bytes. No condition beyond those that each theorem names. -/
set_option linter.unusedVariables false
set_option linter.unusedSimpArgs false
namespace Go.Proofs.Ytmckgcooehdbaaa
open Go.RowKit Go.Proofs.YtmckgcooehdbaaaW.PrintWords

def TellsI (w : World) (e : Ending) (w' : World) : Prop := ∃ n, e = .returned (.int .i64 n) ∧ Below w.heap.size w w'
theorem TellsI.mk_ {w w' : World} {e : Ending} {n : Int} (h : e = .returned (.int .i64 n)) (hb : Below w.heap.size w w') : TellsI w e w' := ⟨n, h, hb⟩
def TellsV (text : ByteArray) (w : World) (e : Ending) (w' : World) : Prop := ∃ b : Bool, e = .returned (.bool b) ∧ (b = true → text.size ≤ 200) ∧ Below w.heap.size w w'
theorem TellsV.mk_ {text : ByteArray} {w w' : World} {e : Ending} {b : Bool} (h : e = .returned (.bool b)) (hb : Below w.heap.size w w') (hs : b = true → text.size ≤ 200) : TellsV text w e w' := ⟨b, h, hs, hb⟩

set_option maxHeartbeats 2000000 in
set_option maxRecDepth 100000 in
theorem value_any (kind : Int) (text : ByteArray) (num : Int) (tru : Bool) (w : World) : Calls Try.prog 28 #[.agg #[.int .i64 kind, .string text, .int .i64 num, .bool tru]] w fun e w' => TellsV text w e w' := by
  go_enter Try.func28, Try.ntmps28
  go_upto_region 1 with fail
  go_cut [0, 39] (fun _ v39 wc => ∃ b : Bool, v39 = .bool b ∧ wc.cell? ⟨w.heap.size, 1, none⟩ = some (.string text) ∧ Below w.heap.size w wc)
  case first =>
    go_wp2
    all_goals (go_meet; exact ⟨_, rfl, by simp [World.cell?_alloc_new], (Below.refl _ _).alloc (Nat.le_refl _) _⟩)
  obtain ⟨b, rfl, hcell, hb⟩ := hcut
  have HB := Lib.hid hb
  clear hb
  cases b
  · by_cases h : text.size ≤ 200
    · go_wp2_with fail
      refine (right_any _ _ (by omega)).mono ?_
      rintro e w1 ⟨b, rfl, HB1⟩
      go_wp2
      go_ret
      exact TellsV.mk_ rfl (below_then HB.out HB.out.size HB1) (fun _ => h)
    · go_wp2
      go_ret
      exact TellsV.mk_ rfl HB.out (fun h => by cases h)
  · go_wp2
    go_ret
    exact TellsV.mk_ rfl HB.out (fun h => by cases h)

set_option maxHeartbeats 2000000 in
set_option maxRecDepth 100000 in
theorem lead_any (s : ByteArray) (w : World) (hs : s.size ≤ 100000) : Calls Try.prog 32 #[.string s] w fun e w' => TellsI w e w' := by
  go_enter Try.func32, Try.ntmps32
  go_wp2_with fail
  refine (runes_any _ _ hs).mono ?_
  rintro e w1 ⟨v0, v1, rs, ats, rfl, HT, hl, hn⟩
  obtain ⟨A, c, rfl, hr⟩ := own_reads HT.first
  obtain ⟨A2, c2, rfl, hr2⟩ := own_reads HT.second
  have HB := Lib.hid HT.below
  have HR := Lib.hid hr
  have HR2 := Lib.hid hr2
  have HL := Lib.hid hl
  clear HT hr hr2 hl
  go_wp2
  go_loop [5] (fun v5 => ∃ i : Nat, v5 = .int .i64 i ∧ i ≤ rs.length) (fun v5 => rs.length - (intOf v5).toNat)
  case atStart => exact ⟨0, rfl, by omega⟩
  case round =>
    obtain ⟨i, rfl, hi⟩ := hrel
    by_cases hlt : i < rs.length
    · have hlt2 : i < ats.length := by have := HL.out; omega
      obtain ⟨ad, ea, hc0⟩ := ReadsInt.at_ HR.out (i : Int) (by omega) (by omega)
      obtain ⟨ad2, ea2, hc02⟩ := ReadsInt.at_ HR2.out (i : Int) (by omega) (by omega)
      subst ea ea2
      have hc : w1.cell? (ad.add i) = some (.int .i64 (rd rs i)) := hc0
      have hc2 : w1.cell? (ad2.add i) = some (.int .i64 (rd ats i)) := hc02
      clear hc0 hc02
      generalize rd rs (i : Int) = x at hc
      generalize rd ats (i : Int) = y at hc2
      go_wp2_with fail
      refine (letter_any _ _).mono ?_
      rintro e w2 ⟨⟨b, rfl⟩, rfl⟩
      cases b
      all_goals go_wp2
      all_goals first
        | (go_ret; exact TellsI.mk_ rfl HB.out)
        | (go_round
           case rel => exact ⟨i + 1, by go_num, by omega⟩
           case measure => simp [intOf]; omega)
    · go_wp2
      go_ret
      exact TellsI.mk_ rfl HB.out
end Go.Proofs.Ytmckgcooehdbaaa
/-! The contract of One: what a term has that may be, for every term. No condition beyond those that each theorem names. -/
set_option linter.unusedVariables false
set_option linter.unusedSimpArgs false
namespace Go.Proofs.Ytmckgcooehdbaaa
open Go.RowKit Go.Proofs.YtmckgcooehdbaaaW.PrintWords

/-- A term of a query. -/
structure Term where
  field : ByteArray
  rel : Int
  kind : Int
  text : ByteArray
  num : Int
  tru : Bool
def Term.value (t : Term) : Value := .agg #[.string t.field, .int .i64 t.rel, .int .i64 t.kind, .string t.text, .int .i64 t.num, .bool t.tru]
def isText (s : List UInt8) : Bool := s == [115, 101, 114, 118, 105, 99, 101] || s == [111, 112]
def isNum (s : List UInt8) : Bool := s == [115, 116, 97, 116, 117, 115] || s == [100, 117, 114] || s == [115, 116, 97, 114, 116] || s == [116, 114, 97, 99, 101] || s == [105, 100] || s == [112, 97, 114, 101, 110, 116]
theorem text2_is (s : ByteArray) (w : World) : Calls Try.prog 29 #[.string s] w fun e w' => e = .returned (.bool (isText s.toList)) ∧ w = w' := text2_any s w
theorem numberT_is (s : ByteArray) (w : World) : Calls Try.prog 30 #[.string s] w fun e w' => e = .returned (.bool (isNum s.toList)) ∧ w = w' := numberT_any s w
/-- What a term that may be has. -/
def OneP (t : Term) : Prop :=
  (isText t.field.toList = true → t.kind = 0) ∧ (isText t.field.toList = false → isNum t.field.toList = true → t.kind = 1 ∧ 0 ≤ t.num) ∧ (0 ≤ t.rel ∧ t.rel ≤ 6 ∧ (t.rel = 6 → t.kind = 0)) ∧ t.text.size ≤ 200
def TellsOne (t : Term) (w : World) (e : Ending) (w' : World) : Prop := ∃ b : Bool, e = .returned (.bool b) ∧ (b = true → OneP t) ∧ Below w.heap.size w w'
theorem TellsOne.mk_ {t : Term} {w w' : World} {e : Ending} {b : Bool} (h : e = .returned (.bool b)) (hb : Below w.heap.size w w') (hs : b = true → OneP t) : TellsOne t w e w' := ⟨b, h, hs, hb⟩

/-- The six cells of a term. -/
structure TermAt (w : World) (a : Addr) (t : Term) : Prop where
  c0 : w.cell? a = some (.string t.field)
  c1 : w.cell? ⟨a.block, a.off + 1, none⟩ = some (.int .i64 t.rel)
  c2 : w.cell? ⟨a.block, a.off + 2, none⟩ = some (.int .i64 t.kind)
  c3 : w.cell? ⟨a.block, a.off + 3, none⟩ = some (.string t.text)
  c4 : w.cell? ⟨a.block, a.off + 4, none⟩ = some (.int .i64 t.num)
  c5 : w.cell? ⟨a.block, a.off + 5, none⟩ = some (.bool t.tru)
theorem TermAt.below {w w1 : World} {a : Addr} {t : Term} (h : TermAt w a t) (hb : Below w.heap.size w w1) : TermAt w1 a t :=
  ⟨pw_cell_below hb h.c0, pw_cell_below hb h.c1, pw_cell_below hb h.c2, pw_cell_below hb h.c3, pw_cell_below hb h.c4, pw_cell_below hb h.c5⟩
theorem TermAt.boxed (w : World) (t : Term) (T : Nat) : TermAt (w.alloc (.cells #[.string t.field, .int .i64 t.rel, .int .i64 t.kind, .string t.text, .int .i64 t.num, .bool t.tru] T)) ⟨w.heap.size, 0, none⟩ t :=
  ⟨by simp [World.cell?_alloc_new], by simp [World.cell?_alloc_new], by simp [World.cell?_alloc_new], by simp [World.cell?_alloc_new], by simp [World.cell?_alloc_new], by simp [World.cell?_alloc_new]⟩

set_option maxHeartbeats 4000000 in
set_option maxRecDepth 100000 in
theorem one_any (f : ByteArray) (rel kind : Int) (text : ByteArray) (num : Int) (tru : Bool) (w : World) : Calls Try.prog 15 #[.agg #[.string f, .int .i64 rel, .int .i64 kind, .string text, .int .i64 num, .bool tru]] w fun e w' => TellsOne ⟨f, rel, kind, text, num, tru⟩ w e w' := by
  go_enter Try.func15, Try.ntmps15
  go_upto_region 1 with fail
  go_cut [0, 28] (fun _ v28 wc => ∃ b : Bool, v28 = .bool b ∧ Aside0 (b = false → (0 ≤ rel ∧ rel ≤ 6 ∧ (rel = 6 → kind = 0)) ∧ text.size ≤ 200) ∧ Aside0 (TermAt wc ⟨w.heap.size, 0, none⟩ ⟨f, rel, kind, text, num, tru⟩) ∧ Aside0 (Below w.heap.size w wc))
  case first =>
    have HB0 := Lib.hid ((Below.refl w.heap.size w).alloc (Nat.le_refl _) (.cells #[.string f, .int .i64 rel, .int .i64 kind, .string text, .int .i64 num, .bool tru] 47))
    have HT0 := Lib.hid (TermAt.boxed w ⟨f, rel, kind, text, num, tru⟩ 47)
    go_wp2_with fail
    refine (value_any _ _ _ _ _).mono ?_
    rintro e w1 ⟨b, rfl, hsz, HB1⟩
    have HT := Aside0.mk (HT0.out.below HB1)
    have HB := Aside0.mk (below_then HB0.out HB0.out.size HB1)
    have hx1 := HT.out.c1
    have hx2 := HT.out.c2
    simp only [Nat.zero_add] at hx1 hx2
    clear HB0 HT0 HB1
    cases b
    · clear hsz
      go_wp2
      all_goals (go_meet; exact ⟨_, rfl, ⟨fun h => by simp at h⟩, HT, HB⟩)
    · have hsz := hsz rfl
      go_wp2
      all_goals (go_meet; exact ⟨_, rfl, ⟨fun h => by first | (simp at h; done) | (simp at h; omega) | (simp at h; exact ⟨⟨by omega, by omega, fun _ => by simp_all⟩, hsz⟩)⟩, HT, HB⟩)
  obtain ⟨b, rfl, hP, HT, HB⟩ := hcut
  cases b
  case true =>
    go_wp2
    go_ret
    exact TellsOne.mk_ rfl HB.out (fun h => by cases h)
  have hP := hP.out rfl
  have h0 := HT.out.c0
  have h1 := HT.out.c1
  have h2 := HT.out.c2
  have h4 := HT.out.c4
  simp only [Nat.zero_add] at h0 h1 h2 h4
  have HP := Lib.hid hP
  clear hP
  go_wp2_with fail
  refine (text2_is _ _).mono ?_
  rintro e w' ⟨rfl, rfl⟩
  cases hx : isText f.toList
  · have HX := Lib.hid hx
    clear hx
    go_wp2_with fail
    refine (numberT_is _ _).mono ?_
    rintro e w' ⟨rfl, rfl⟩
    cases hy : isNum f.toList
    · have HY := Lib.hid hy
      clear hy
      have fin : OneP ⟨f, rel, kind, text, num, tru⟩ := ⟨fun h => (by rw [HX.out] at h; cases h), fun _ h => (by rw [HY.out] at h; cases h), HP.out.1, HP.out.2⟩
      have FIN := Lib.hid fin
      clear fin
      go_upto_region 7 with fail
      go_cut [73] (fun v73 wx => ∃ b : Bool, v73 = .bool b ∧ Aside0 (b = false → 2 ≤ f.size) ∧ wc = wx)
      case first =>
        by_cases hs : f.size < 2
        · go_wp2
          all_goals (go_meet; exact ⟨_, rfl, ⟨fun h => by simp at h⟩, rfl⟩)
        · have hs0 : 0 < f.size := by omega
          go_wp2
          all_goals (go_meet; exact ⟨_, rfl, ⟨fun h => by omega⟩, rfl⟩)
      obtain ⟨b, rfl, hsz, rfl⟩ := hcut
      cases b
      case true =>
        go_wp2
        go_ret
        exact TellsOne.mk_ rfl HB.out (fun h => by cases h)
      have hsz := hsz.out rfl
      have hz : (f.extract 1 f.size).size = f.size - 1 := by simp
      have Hz := Lib.hid hz
      clear hz
      go_wp2_with fail
      refine (name_any _ _).mono ?_
      rintro e w1 ⟨b, rfl, hs32, HB1⟩
      cases b
      · clear hs32
        go_wp2
        go_ret
        exact TellsOne.mk_ rfl (below_then HB.out HB.out.size HB1) (fun _ => FIN.out)
      · have hs32 := hs32 rfl
        rw [Hz.out] at hs32
        go_wp2_with fail
        refine (lead_any _ _ (by rw [Hz.out]; omega)).mono ?_
        rintro e w2 ⟨n, rfl, HB2⟩
        go_wp2
        all_goals (go_ret; exact TellsOne.mk_ rfl (below_then (below_then HB.out HB.out.size HB1) (Nat.le_trans HB.out.size HB1.size) HB2) (fun _ => FIN.out))
    · have HY := Lib.hid hy
      clear hy
      go_wp2
      all_goals (go_ret; refine TellsOne.mk_ rfl HB.out (fun h => ?_); exact ⟨fun h => (by rw [HX.out] at h; cases h), fun _ _ => (by simp_all), HP.out.1, HP.out.2⟩)
  · have HX := Lib.hid hx
    clear hx
    go_wp2
    all_goals (go_ret; refine TellsOne.mk_ rfl HB.out (fun h => ?_); exact ⟨fun _ => (by simp_all), fun h => (by rw [HX.out] at h; cases h), HP.out.1, HP.out.2⟩)
end Go.Proofs.Ytmckgcooehdbaaa
/-! The contracts of May and Small of a query, for every row of terms. No condition beyond those that each theorem names. -/
set_option linter.unusedVariables false
set_option linter.unusedSimpArgs false
namespace Go.Proofs.Ytmckgcooehdbaaa
open Go.RowKit Go.Proofs.YtmckgcooehdbaaaW.PrintWords

/-- A row of terms that is read. -/
structure TermsAt (w : World) (A : Option Addr) (n : Nat) (ts : List Term) : Prop where
  len : ts.length = n
  max : n ≤ 9223372036854775807
  at_ : ∀ i (h : i < ts.length), ∃ ad, A = some ad ∧ TermAt w (ad.add (i * 6)) ts[i]
theorem TermsAt.below {w w1 : World} {A : Option Addr} {n : Nat} {ts : List Term} (h : TermsAt w A n ts) (hb : Below w.heap.size w w1) : TermsAt w1 A n ts :=
  ⟨h.len, h.max, fun i hi => let ⟨ad, ha, ht⟩ := h.at_ i hi; ⟨ad, ha, ht.below hb⟩⟩

/-- What a query that may be has. -/
def MayP (ts : List Term) (o : Int) : Prop := (∀ t ∈ ts, OneP t) ∧ ts.length ≤ 8 ∧ 0 ≤ o ∧ o ≤ 2
def TellsMay (ts : List Term) (o : Int) (w : World) (e : Ending) (w' : World) : Prop := ∃ b : Bool, e = .returned (.bool b) ∧ (b = true → MayP ts o) ∧ Below w.heap.size w w'
theorem TellsMay.mk_ {ts : List Term} {o : Int} {w w' : World} {e : Ending} {b : Bool} (h : e = .returned (.bool b)) (hb : Below w.heap.size w w') (hs : b = true → MayP ts o) : TellsMay ts o w e w' := ⟨b, h, hs, hb⟩

set_option maxHeartbeats 4000000 in
set_option maxRecDepth 100000 in
theorem may_any (A : Option Addr) (n c : Nat) (ts : List Term) (o : Int) (w : World) (h : TermsAt w A n ts) : Calls Try.prog 8 #[.agg #[.slice A n c, .int .i64 o]] w fun e w' => TellsMay ts o w e w' := by
  have hm := h.max
  have hl := h.len
  subst hl
  have H := Lib.hid h
  clear h
  go_enter Try.func8, Try.ntmps8
  have HB0 := Lib.hid ((Below.refl w.heap.size w).alloc (Nat.le_refl _) (.cells #[.slice A ts.length c, .int .i64 o] 24))
  go_wp2
  go_loopw [3] (fun v3 wr => ∃ i : Nat, v3 = .int .i64 i ∧ i ≤ ts.length ∧ Aside0 (∀ j (hj : j < ts.length), j < i → OneP ts[j]) ∧ Aside0 (Below w.heap.size w wr) ∧ wr.cell? ⟨w.heap.size, 0, none⟩ = some (.slice A ts.length c) ∧ wr.cell? ⟨w.heap.size, 1, none⟩ = some (.int .i64 o)) (fun v3 _ => ts.length - (intOf v3).toNat)
  case atStart => exact ⟨0, rfl, by omega, ⟨fun j _ h => by omega⟩, ⟨HB0.out⟩, by simp [World.cell?_alloc_new], by simp [World.cell?_alloc_new]⟩
  case round =>
    obtain ⟨i, rfl, hi, HO, HB, hc0, hc1⟩ := hrel
    by_cases hlt : i < ts.length
    · obtain ⟨ad, ea, ht⟩ := H.out.at_ i hlt
      subst ea
      have ht := ht.below HB.out
      have e0 := ht.c0
      have e1 := ht.c1
      have e2 := ht.c2
      have e3 := ht.c3
      have e4 := ht.c4
      have e5 := ht.c5
      clear ht
      go_wp2_with fail
      refine (one_any _ _ _ _ _ _ _).mono ?_
      rintro e w1 ⟨b, rfl, hP, HB1⟩
      have g0 := pw_cell_below HB1 hc0
      have g1 := pw_cell_below HB1 hc1
      have HB2 := Aside0.mk (below_then HB.out HB.out.size HB1)
      clear HB1 hc0 hc1 e0 e1 e2 e3 e4 e5
      cases b
      · clear hP
        go_wp2
        go_ret
        exact TellsMay.mk_ rfl HB2.out (fun h => by cases h)
      · have HO' : Aside0 (∀ j (hj : j < ts.length), j < i + 1 → OneP ts[j]) := ⟨fun j hj h => by
          rcases Nat.lt_or_ge j i with h2 | h2
          · exact HO.out j hj h2
          · obtain rfl : j = i := by omega
            exact hP rfl⟩
        clear hP HO
        go_wp2
        go_roundw
        case rel => exact ⟨i + 1, by go_num, by omega, HO', HB2, g0, g1⟩
        case measure => simp [intOf]; omega
    · have HM : Aside0 (∀ t ∈ ts, OneP t) := ⟨fun t ht => by
        obtain ⟨j, hj, rfl⟩ := List.getElem_of_mem ht
        exact HO.out j hj (by omega)⟩
      clear HO
      go_wp2
      all_goals (go_ret; refine TellsMay.mk_ rfl HB.out (fun h => ?_); exact ⟨HM.out, by first | omega | (simp_all; omega) | (simp_all; done), by first | omega | (simp_all; done), by first | omega | (simp_all; done)⟩)

set_option maxHeartbeats 4000000 in
set_option maxRecDepth 100000 in
theorem smallQ_any (A : Option Addr) (n c : Nat) (ts : List Term) (o : Int) (w : World) (h : TermsAt w A n ts) : Calls Try.prog 7 #[.agg #[.slice A n c, .int .i64 o]] w fun e w' => AnyB w e w' := by
  have hm := h.max
  have hl := h.len
  subst hl
  have H := Lib.hid h
  clear h
  go_enter Try.func7, Try.ntmps7
  have HB0 := Lib.hid ((Below.refl w.heap.size w).alloc (Nat.le_refl _) (.cells #[.slice A ts.length c, .int .i64 o] 24))
  go_wp2
  go_loopw [3, 4] (fun v3 v4 wr => ∃ (i : Nat) (x : Int), v3 = .int .i64 x ∧ v4 = .int .i64 i ∧ i ≤ ts.length ∧ Aside0 (Below w.heap.size w wr) ∧ wr.cell? ⟨w.heap.size, 0, none⟩ = some (.slice A ts.length c)) (fun _ v4 _ => ts.length - (intOf v4).toNat)
  case atStart => exact ⟨0, 0, rfl, rfl, by omega, ⟨HB0.out⟩, by simp [World.cell?_alloc_new]⟩
  case round =>
    obtain ⟨i, x, rfl, rfl, hi, HB, hc0⟩ := hrel
    by_cases hlt : i < ts.length ∧ x ≤ 4000
    · obtain ⟨hlt, hx⟩ := hlt
      obtain ⟨ad, ea, ht⟩ := H.out.at_ i hlt
      subst ea
      have ht := ht.below HB.out
      have e0 := ht.c0
      have e3 := ht.c3
      clear ht
      have p1 := eq_true (show (0 : Int) ≤ (i : Int) by omega)
      have p2 := eq_true (show (i : Int) < (ts.length : Int) by omega)
      go_wp2
      repeat (go_quiet (fail); try go_wp2)
      go_roundw
      case rel => exact ⟨i + 1, _, rfl, by go_num, by omega, ⟨by repeat (first | exact HB.out | apply pw_below_drewN | apply below_drew)⟩, hc0⟩
      case measure => simp [intOf]; omega
    · by_cases h2 : i < ts.length
      · have h3 : ¬ x ≤ 4000 := fun h => hlt ⟨h2, h⟩
        clear hlt
        go_wp2
        go_ret
        exact AnyB.mk_ rfl HB.out
      · clear hlt
        go_wp2
        go_ret
        exact AnyB.mk_ rfl HB.out
end Go.Proofs.Ytmckgcooehdbaaa
/-! The contract of Bounds, and of the closure in it: the bounds are what boundsF says, for every query and every field. No condition beyond those that each theorem names. -/
set_option linter.unusedVariables false
set_option linter.unusedSimpArgs false
namespace Go.Proofs.Ytmckgcooehdbaaa
open Go.RowKit Go.Proofs.YtmckgcooehdbaaaW.PrintWords

/-- Two variables of the call's own: what they hold; they may be written. -/
structure TwoVars (w : World) (g0 g1 : Nat) (x y : Int) : Prop where
  c0 : w.cell? ⟨g0, 0, none⟩ = some (.int .i64 x)
  c1 : w.cell? ⟨g1, 0, none⟩ = some (.int .i64 y)
  f0 : w.frozen? ⟨g0, 0, none⟩ = false
  f1 : w.frozen? ⟨g1, 0, none⟩ = false
theorem TwoVars.set_ {w : World} {g0 g1 : Nat} {x y : Int} (h : TwoVars w g0 g1 x y) (hne : g0 ≠ g1) (a b : Int) :
    TwoVars ((w.setCell ⟨g0, 0, none⟩ (.int .i64 a)).setCell ⟨g1, 0, none⟩ (.int .i64 b)) g0 g1 a b := by
  have e1 : (w.setCell ⟨g0, 0, none⟩ (.int .i64 a)).cell? ⟨g1, 0, none⟩ = some (.int .i64 y) := by
    rw [World.cell?_setCell_other _ _ _ _ (by first | (simp; done) | (simp; omega))]; exact h.c1
  refine ⟨?_, World.cell?_setCell_same _ _ _ e1, by simp [h.f0], by simp [h.f1]⟩
  rw [World.cell?_setCell_other _ _ _ _ (by first | (simp; done) | (simp; omega))]
  exact World.cell?_setCell_same _ _ _ h.c0
theorem TwoVars.drew {w : World} {g0 g1 : Nat} {x y : Int} (h : TwoVars w g0 g1 x y) : TwoVars w.drew g0 g1 x y := ⟨h.c0, h.c1, h.f0, h.f1⟩

theorem TwoVars.alloc {w : World} {g0 g1 : Nat} {x y : Int} (h : TwoVars w g0 g1 x y) (o : Obj) : TwoVars (w.alloc o) g0 g1 x y := by
  have l0 := World.block_lt_of_cell? _ _ h.c0
  have l1 := World.block_lt_of_cell? _ _ h.c1
  simp only at l0 l1
  refine ⟨(World.cell?_alloc_lt _ _ _ l0).trans h.c0, (World.cell?_alloc_lt _ _ _ l1).trans h.c1, (World.frozen?_alloc_old _ _ _ (by simp; omega)).trans h.f0, (World.frozen?_alloc_old _ _ _ (by simp; omega)).trans h.f1⟩

/-- Two variables have been written, and nothing else. -/
def Narrowed (g0 g1 : Nat) (x y : Int) (w : World) (e : Ending) (w' : World) : Prop :=
  e = .returned (.tuple #[]) ∧ TwoVars w' g0 g1 x y ∧ ∀ B, B ≤ g0 → B ≤ g1 → Below B w w'
theorem Narrowed.mk_ {g0 g1 : Nat} {x y a b : Int} {w : World} (h : TwoVars w g0 g1 a b) (hne : g0 ≠ g1) {e : Ending} (he : e = .returned (.tuple #[])) (x' y' : Int) (hx : x' = x) (hy : y' = y) :
    Narrowed g0 g1 x y w e ((w.setCell ⟨g0, 0, none⟩ (.int .i64 x')).setCell ⟨g1, 0, none⟩ (.int .i64 y')).drew := by
  subst hx hy
  exact ⟨he, (h.set_ hne _ _).drew, fun B h0 h1 => ((((Below.refl _ _).setCell h0 _).setCell h1 _)).drew⟩

theorem narrow_any (lo hi : Int) (g0 g1 : Nat) (x y : Int) (w : World) (hne : g0 ≠ g1) (h : TwoVars w g0 g1 x y) :
    Calls Try.prog 33 #[.int .i64 lo, .int .i64 hi, .pointer (some ⟨g0, 0, none⟩), .pointer (some ⟨g1, 0, none⟩)] w fun e w' => Narrowed g0 g1 (max x lo) (min y hi) w e w' := by
  have h0 := h.c0
  have h1 := h.c1
  have f0 := h.f0
  have f1 := h.f1
  have h1' : ∀ v, (w.setCell ⟨g0, 0, none⟩ v).cell? ⟨g1, 0, none⟩ = some (.int .i64 y) := fun v => by
    rw [World.cell?_setCell_other _ _ _ _ (by first | (simp; done) | (simp; omega))]; exact h1
  have H := Lib.hid h
  clear h
  go_enter Try.func33, Try.ntmps33
  go_wp2
  go_region
  all_goals (try go_wp2)
  all_goals (go_end0; exact Narrowed.mk_ H.out hne rfl _ _ (by omega) (by omega))

/-! What the bounds are. -/
/-- One term narrows the bounds. -/
def narrowed (t : Term) (b : Int × Int) : Int × Int :=
  if t.rel == 0 then (max b.1 t.num, min b.2 t.num)
  else if t.rel == 2 then (max b.1 0, min b.2 (wrap64 (t.num - 1)))
  else if t.rel == 3 then (max b.1 0, min b.2 t.num)
  else if t.rel == 4 then (max b.1 (if t.num < wrap64 (t.num + 1) then wrap64 (t.num + 1) else t.num), min b.2 9223372036854775807)
  else if t.rel == 5 then (max b.1 t.num, min b.2 9223372036854775807)
  else b
def boundStep (f : List UInt8) (b : Int × Int) (t : Term) : Int × Int := if t.field.toList = f then narrowed t b else b
def boundsF (f : List UInt8) (ts : List Term) : Int × Int := ts.foldl (boundStep f) (0, 9223372036854775807)
theorem boundsF_snoc (f : List UInt8) (ts : List Term) (i : Nat) (h : i < ts.length) : boundsF f (ts.take (i + 1)) = boundStep f (boundsF f (ts.take i)) ts[i] := by
  unfold boundsF
  rw [List.take_succ_eq_append_getElem h, List.foldl_append]
  rfl

theorem twoVars_step {w1 : World} {g0 g1 : Nat} {x y : Int} {t : Term} {b : Int × Int} (h : TwoVars w1 g0 g1 x y) (hx : narrowed t b = (x, y)) : TwoVars w1 g0 g1 (narrowed t b).1 (narrowed t b).2 := by
  rw [hx]; exact h

def TellsBounds (f : List UInt8) (ts : List Term) (w : World) (e : Ending) (w' : World) : Prop :=
  e = .returned (.tuple #[.int .i64 (boundsF f ts).1, .int .i64 (boundsF f ts).2]) ∧ Below w.heap.size w w'

set_option maxHeartbeats 4000000 in
set_option maxRecDepth 100000 in
theorem bounds_any (A : Option Addr) (n c : Nat) (ts : List Term) (o : Int) (f : ByteArray) (w : World) (h : TermsAt w A n ts) : Calls Try.prog 16 #[.agg #[.slice A n c, .int .i64 o], .string f] w fun e w' => TellsBounds f.toList ts w e w' := by
  have hmf : ∀ (fn : Fn) (first cap : Array Value) (w : World), (Instr.makeFunc fn first cap).run Try.prog w = .ok (.func fn first cap) w := fun _ _ _ _ => rfl
  have hm := h.max
  have hl := h.len
  subst hl
  have H := Lib.hid h
  clear h
  go_enter Try.func16, Try.ntmps16
  have HB0 := Lib.hid ((((Below.refl w.heap.size w).alloc (Nat.le_refl _) (.cells #[.slice A ts.length c, .int .i64 o] 24)).alloc (by simp) (.cells #[.int .i64 0] 2)).alloc (by simp; omega) (.cells #[.int .i64 9223372036854775807] 2))
  go_wp2
  go_loopw [16] (fun v16 wr => ∃ i : Nat, v16 = .int .i64 i ∧ i ≤ ts.length ∧ Aside0 (TwoVars wr (w.heap.size + 1) (w.heap.size + 1 + 1) (boundsF f.toList (ts.take i)).1 (boundsF f.toList (ts.take i)).2) ∧ Aside0 (Below w.heap.size w wr) ∧ Aside0 (w.heap.size + 1 + 1 + 1 ≤ wr.heap.size)) (fun v16 _ => ts.length - (intOf v16).toNat)
  case atStart => exact ⟨0, rfl, by omega, ⟨⟨by simp [go_sem, boundsF], by simp [go_sem, boundsF], by simp [go_sem], by simp [go_sem]⟩⟩, ⟨HB0.out⟩, ⟨by simp⟩⟩
  case round =>
    obtain ⟨i, rfl, hi, HV, HB, HS⟩ := hrel
    by_cases hlt : i < ts.length
    · obtain ⟨ad, ea, ht⟩ := H.out.at_ i hlt
      subst ea
      have ht := ht.below HB.out
      have e0 := ht.c0
      have e1 := ht.c1
      have e2 := ht.c2
      have e3 := ht.c3
      have e4 := ht.c4
      have e5 := ht.c5
      have hsnoc := Aside0.mk (boundsF_snoc f.toList ts i hlt)
      generalize ts[i] = t at ht e0 e1 e2 e3 e4 e5 hsnoc
      clear ht
      go_upto_region 5 with fail
      go_cut [10] (fun v10 wc => ∃ g : Nat, v10 = .pointer (some ⟨g, 0, none⟩) ∧ Aside0 (TermAt wc ⟨g, 0, none⟩ t) ∧ Aside0 (TwoVars wc (w.heap.size + 1) (w.heap.size + 1 + 1) (boundsF f.toList (ts.take i)).1 (boundsF f.toList (ts.take i)).2) ∧ Aside0 (Below w.heap.size w wc) ∧ Aside0 (w.heap.size + 1 + 1 + 1 ≤ wc.heap.size))
      case first =>
        go_wp2
        go_meet
        exact ⟨wr.heap.size, rfl, ⟨TermAt.boxed _ _ _⟩, ⟨HV.out.alloc _⟩, ⟨HB.out.alloc HB.out.size _⟩, ⟨by have := HS.out; simp; omega⟩⟩
      clear e0 e1 e2 e3 e4 e5 HV HB HS
      obtain ⟨g, rfl, HT, HV, HB, HS⟩ := hcut
      have e0 := HT.out.c0
      have e1 := HT.out.c1
      have e4 := HT.out.c4
      simp only [Nat.zero_add] at e0 e1 e4
      clear HT
      have hz := HS.out
      by_cases hf : t.field.toList = f.toList
      · have hfb : (t.field.toList == f.toList) = true := beq_iff_eq.mpr hf
        have HF := Aside0.mk hf
        clear hf
        go_wp2_with (go_at_call 33; refine (narrow_any _ _ _ _ _ _ _ (by omega) HV.out).mono ?_; rintro e w1 ⟨rfl, HV3, HB3⟩)
        all_goals go_roundw
        all_goals first
          | (case measure => simp [intOf]; omega)
          | (case rel =>
              first
                | exact ⟨i + 1, by go_num, by omega, ⟨by rw [hsnoc.out, boundStep, if_pos HF.out]; exact twoVars_step HV3 (by simp [narrowed, *])⟩, ⟨HB.out.trans (HB3 _ (by omega) (by omega))⟩, ⟨by have := (HB3 0 (by omega) (by omega)).size; omega⟩⟩
                | exact ⟨i + 1, by go_num, by omega, ⟨by rw [hsnoc.out, boundStep, if_pos HF.out]; exact twoVars_step HV.out (by simp [narrowed, *])⟩, HB, HS⟩)
      · have hfb : (t.field.toList == f.toList) = false := beq_eq_false_iff_ne.mpr hf
        have HF := Aside0.mk hf
        clear hf
        have HS2 : boundsF f.toList (ts.take (i + 1)) = boundsF f.toList (ts.take i) := by rw [hsnoc.out]; simp only [boundStep]; rw [if_neg HF.out]
        have HV2 := HV.out
        rw [← HS2] at HV2
        have HV3 := Aside0.mk HV2
        clear HV2 HS2 HV
        go_wp2_with fail
        go_roundw
        case rel => exact ⟨i + 1, by go_num, by omega, HV3, HB, HS⟩
        case measure => simp [intOf]; omega
    · have hfin : ts.take i = ts := List.take_of_length_le (by omega)
      have HV2 := HV.out
      rw [hfin] at HV2
      have h0 := HV2.c0
      have h1 := HV2.c1
      clear HV HV2 hfin
      go_wp2
      repeat (go_quiet (fail); try go_wp2)
      go_ret2
      exact ⟨rfl, by repeat (first | exact HB.out | apply pw_below_drewN | apply below_drew)⟩
end Go.Proofs.Ytmckgcooehdbaaa
/-! The contract of Wants, and of IndexFunc under it, for every query and every field. No condition beyond those that each theorem names. -/
set_option linter.unusedVariables false
set_option linter.unusedSimpArgs false
namespace Go.Proofs.Ytmckgcooehdbaaa
open Go.RowKit Go.Proofs.YtmckgcooehdbaaaW.PrintWords

/-- What a term that asks for a text is. -/
def wantP (f : List UInt8) (t : Term) : Bool := t.field.toList == f && t.rel == 0

set_option maxHeartbeats 2000000 in
set_option maxRecDepth 100000 in
theorem wants1_any (f : ByteArray) (rel kind : Int) (text : ByteArray) (num : Int) (tru : Bool) (a : Addr) (g : ByteArray) (w : World) (ha : w.cell? a = some (.string g)) :
    Calls Try.prog 35 #[.agg #[.string f, .int .i64 rel, .int .i64 kind, .string text, .int .i64 num, .bool tru], .pointer (some a)] w fun e w' => e = .returned (.bool (wantP g.toList ⟨f, rel, kind, text, num, tru⟩)) ∧ Below w.heap.size w w' := by
  have h1 : ∀ o, (w.alloc o).cell? a = some (.string g) := fun o => (World.cell?_alloc_lt _ _ _ (World.block_lt_of_cell? _ _ ha)).trans ha
  have h2 := h1 (.cells #[.string f, .int .i64 rel, .int .i64 kind, .string text, .int .i64 num, .bool tru] 47)
  clear h1
  cases hf : (f.toList == g.toList)
  · go_enter Try.func35, Try.ntmps35
    go_wp2
    go_ret
    exact ⟨by simp [wantP, hf], (Below.refl _ _).alloc (Nat.le_refl _) _⟩
  · go_enter Try.func35, Try.ntmps35
    go_wp2
    go_ret
    exact ⟨by simp [wantP, hf], (Below.refl _ _).alloc (Nat.le_refl _) _⟩

/-- The first place at which a text is asked for; -1: none. -/
def FirstAt (f : List UInt8) (ts : List Term) (k : Int) : Prop :=
  (k = -1 ∧ ∀ t ∈ ts, wantP f t = false) ∨ ∃ i : Nat, ∃ h : i < ts.length, k = i ∧ wantP f ts[i] = true
def TellsIdx (f : List UInt8) (ts : List Term) (w : World) (e : Ending) (w' : World) : Prop := ∃ k : Int, e = .returned (.int .i64 k) ∧ FirstAt f ts k ∧ Below w.heap.size w w'
theorem TellsIdx.mk_ {f : List UInt8} {ts : List Term} {w w' : World} {e : Ending} {k : Int} (h : e = .returned (.int .i64 k)) (hb : Below w.heap.size w w') (hs : FirstAt f ts k) : TellsIdx f ts w e w' := ⟨k, h, hs, hb⟩

set_option maxHeartbeats 2000000 in
set_option maxRecDepth 100000 in
theorem index_any (A : Option Addr) (n c : Nat) (ts : List Term) (a : Addr) (g : ByteArray) (w : World) (h : TermsAt w A n ts) (ha : w.cell? a = some (.string g)) :
    Calls Try.prog 34 #[.slice A n c, .func (.func 35) #[] #[.pointer (some a)]] w fun e w' => TellsIdx g.toList ts w e w' := by
  have hm := h.max
  have hl := h.len
  subst hl
  have H := Lib.hid h
  clear h
  have HA := Lib.hid ha
  clear ha
  go_enter Try.func34, Try.ntmps34
  go_wp2
  go_loopw [8] (fun v8 wr => ∃ i : Nat, v8 = .int .i64 i ∧ i ≤ ts.length ∧ Aside0 (∀ j (hj : j < ts.length), j < i → wantP g.toList ts[j] = false) ∧ Aside0 (Below w.heap.size w wr)) (fun v8 _ => ts.length - (intOf v8).toNat)
  case atStart => exact ⟨0, rfl, by omega, ⟨fun j _ h => by omega⟩, ⟨Below.refl _ _⟩⟩
  case round =>
    obtain ⟨i, rfl, hi, HO, HB⟩ := hrel
    by_cases hlt : i < ts.length
    · obtain ⟨ad, ea, ht⟩ := H.out.at_ i hlt
      subst ea
      have ht := ht.below HB.out
      have e0 := ht.c0
      have e1 := ht.c1
      have e2 := ht.c2
      have e3 := ht.c3
      have e4 := ht.c4
      have e5 := ht.c5
      clear ht
      go_wp2_with fail
      refine (wants1_any _ _ _ _ _ _ a g _ (pw_cell_below HB.out HA.out)).mono ?_
      rintro e w1 ⟨rfl, HB1⟩
      have HB2 := Aside0.mk (below_then HB.out HB.out.size HB1)
      clear HB1 e0 e1 e2 e3 e4 e5
      cases hp : wantP g.toList ts[i]
      · have HO' : Aside0 (∀ j (hj : j < ts.length), j < i + 1 → wantP g.toList ts[j] = false) := ⟨fun j hj h => by
          rcases Nat.lt_or_ge j i with h2 | h2
          · exact HO.out j hj h2
          · obtain rfl : j = i := by omega
            exact hp⟩
        clear hp HO
        go_wp2
        go_roundw
        case rel => exact ⟨i + 1, by go_num, by omega, HO', HB2⟩
        case measure => simp [intOf]; omega
      · have HP := Lib.hid hp
        clear hp
        go_wp2
        go_ret
        exact TellsIdx.mk_ rfl HB2.out (.inr ⟨i, hlt, rfl, HP.out⟩)
    · have HF : Aside0 (FirstAt g.toList ts (-1)) := ⟨.inl ⟨rfl, fun t ht => by
        obtain ⟨j, hj, rfl⟩ := List.getElem_of_mem ht
        exact HO.out j hj (by omega)⟩⟩
      clear HO
      go_wp2
      go_ret
      exact TellsIdx.mk_ rfl HB.out HF.out

/-- What a query asks of a text. -/
def Wanted (f : List UInt8) (ts : List Term) (text : ByteArray) (b : Bool) : Prop :=
  (b = false ∧ ∀ t ∈ ts, wantP f t = false) ∨ (b = true ∧ ∃ t ∈ ts, wantP f t = true ∧ text = t.text)
def TellsWants (f : List UInt8) (ts : List Term) (w : World) (e : Ending) (w' : World) : Prop := ∃ (text : ByteArray) (b : Bool), e = .returned (.tuple #[.string text, .bool b]) ∧ Wanted f ts text b ∧ Below w.heap.size w w'
theorem TellsWants.mk_ {f : List UInt8} {ts : List Term} {w w' : World} {e : Ending} {text : ByteArray} {b : Bool} (h : e = .returned (.tuple #[.string text, .bool b])) (hb : Below w.heap.size w w') (hs : Wanted f ts text b) : TellsWants f ts w e w' := ⟨text, b, h, hs, hb⟩

set_option maxHeartbeats 2000000 in
set_option maxRecDepth 100000 in
theorem wants_any (A : Option Addr) (n c : Nat) (ts : List Term) (o : Int) (f : ByteArray) (w : World) (h : TermsAt w A n ts) : Calls Try.prog 17 #[.agg #[.slice A n c, .int .i64 o], .string f] w fun e w' => TellsWants f.toList ts w e w' := by
  have hmf : ∀ (fn : Fn) (first cap : Array Value) (w : World), (Instr.makeFunc fn first cap).run Try.prog w = .ok (.func fn first cap) w := fun _ _ _ _ => rfl
  have hm := h.max
  have hl := h.len
  subst hl
  have H := Lib.hid h
  clear h
  have HB0 := Lib.hid (((Below.refl w.heap.size w).alloc (Nat.le_refl _) (.cells #[.slice A ts.length c, .int .i64 o] 24)).alloc (by simp) (.cells #[.string f] 9))
  have HQ0 := Lib.hid (show ((w.alloc (.cells #[.slice A ts.length c, .int .i64 o] 24)).alloc (.cells #[.string f] 9)).cell? ⟨w.heap.size, 0, none⟩ = some (.slice A ts.length c) from by simp [go_sem])
  go_enter Try.func17, Try.ntmps17
  go_wp2_with fail
  refine (index_any _ _ _ ts _ f _ (H.out.below HB0.out) (by simp [go_sem])).mono ?_
  rintro e w1 ⟨k, rfl, hk, HB1⟩
  have HQ := pw_cell_below HB1 HQ0.out
  have HB2 := Aside0.mk (below_then HB0.out HB0.out.size HB1)
  clear HB1
  rcases hk with ⟨rfl, hk⟩ | ⟨i, hi, rfl, hk⟩
  · have HK := Lib.hid hk
    clear hk
    go_wp2
    go_ret2
    exact TellsWants.mk_ rfl HB2.out (.inl ⟨rfl, HK.out⟩)
  · have HK := Lib.hid hk
    clear hk
    obtain ⟨ad, ea, ht⟩ := H.out.at_ i hi
    subst ea
    have e3 := (ht.below HB2.out).c3
    clear ht
    go_wp2
    go_ret2
    exact TellsWants.mk_ rfl HB2.out (.inr ⟨rfl, ts[i], List.getElem_mem hi, HK.out, rfl⟩)
end Go.Proofs.Ytmckgcooehdbaaa
