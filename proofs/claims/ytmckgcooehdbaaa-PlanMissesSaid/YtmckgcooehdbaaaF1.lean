/- What the printed functions of the plan's law come to: keys are rows of eight bytes, and the rest answers for every text of at most 100000 bytes. No condition beyond those that each theorem names. -/
import Derived.Test.YtmckgcooehdbaaaC4
import Derived.Test.YtmckgcooehdbaaaD2
import Derived.Test.YtmckgcooehdbaaaPMissx2
import Derived.Test.YtmckgcooehdbaaaPMissx4
import Derived.Test.YtmckgcooehdbaaaPMissx6
set_option linter.unusedVariables false
set_option linter.unusedSimpArgs false
namespace Go.Proofs.Ytmckgcooehdbaaa
open Go.RowKit Go.Proofs.YtmckgcooehdbaaaW.PrintWords Go.Proofs.Ytmckgcooehdbaaa.PMiss

theorem wrap64_in' {n : Int} (h0 : -9223372036854775808 ≤ n) (h1 : n ≤ 9223372036854775807) : wrap64 n = n := by unfold wrap64; omega

/-! Keys. -/
theorem key01_step (k : Nat) (x : Int) (xs : List Int) (i : Int) (h0 : 0 ≤ x) (h1 : x < 18446744073709551616) (hi : 0 ≤ i) (hi8 : i < 8) (hx : xs.length ≤ 8) :
    cambiumref01_Key.l0 (k + 1) x xs i = cambiumref01_Key.l0 k (x / 256) (x % 256 :: xs) (i + 1) := by
  rw [cambiumref01_Key.l0]
  rw [if_pos hi8]
  simp only [Option.bind_some]
  rw [if_pos (by simp; omega), wrap64_in' (by omega) (by omega), Int.tmod_eq_emod_of_nonneg h0, Int.tdiv_eq_ediv_of_nonneg h0, IntKind.wrap_u64]
  have e1 : x % 256 % 256 = x % 256 := by omega
  have e2 : x / 256 % 18446744073709551616 = x / 256 := by omega
  rw [e1, e2]
  rfl
theorem key01_f (k : Nat) (n : Int) (h0 : 0 ≤ n) (h1 : n < 18446744073709551616) (hk : 9 ≤ k) : cambiumref01_Key.f k n = some (keyB n) := by
  obtain ⟨k, rfl⟩ : ∃ m, k = m + 9 := ⟨k - 9, by omega⟩
  unfold cambiumref01_Key.f
  rw [key01_step _ _ _ _ (by omega) (by omega) (by omega) (by omega) (by simp), key01_step _ _ _ _ (by omega) (by omega) (by omega) (by omega) (by simp), key01_step _ _ _ _ (by omega) (by omega) (by omega) (by omega) (by simp),
    key01_step _ _ _ _ (by omega) (by omega) (by omega) (by omega) (by simp), key01_step _ _ _ _ (by omega) (by omega) (by omega) (by omega) (by simp), key01_step _ _ _ _ (by omega) (by omega) (by omega) (by omega) (by simp),
    key01_step _ _ _ _ (by omega) (by omega) (by omega) (by omega) (by simp), key01_step _ _ _ _ (by omega) (by omega) (by omega) (by omega) (by simp)]
  rw [cambiumref01_Key.l0, if_neg (by omega)]
  have a2 : n / 256 / 256 = n / 65536 := by omega
  have a3 : n / 65536 / 256 = n / 16777216 := by omega
  have a4 : n / 16777216 / 256 = n / 4294967296 := by omega
  have a5 : n / 4294967296 / 256 = n / 1099511627776 := by omega
  have a6 : n / 1099511627776 / 256 = n / 281474976710656 := by omega
  have a7 : n / 281474976710656 / 256 = n / 72057594037927936 := by omega
  rw [a2, a3, a4, a5, a6, a7]
  rfl
theorem keyB_length (n : Int) : (keyB n).length = 8 := by simp [keyB]
/-- A span's own key, and its keys in the indexes. -/
def primB (s : Span) : List Int := keyB s.trace ++ keyB s.id
theorem primB_length (s : Span) : (primB s).length = 16 := by simp [primB, keyB]
def indexB (i : Int) (s : Span) : List Int :=
  if i = 1 then bytesOf s.service ++ [0] ++ keyB (IntKind.u64.wrap s.start) ++ primB s
  else if i = 2 then bytesOf s.service ++ [0] ++ bytesOf s.op ++ [0] ++ keyB (IntKind.u64.wrap s.start) ++ primB s
  else if i = 3 then keyB (IntKind.u64.wrap s.dur) ++ primB s
  else if i = 4 then keyB (IntKind.u64.wrap s.start) ++ primB s
  else []
def atB (i : Int) (s : Span) : List Int := if i = 0 then primB s else indexB i s
def orderB (o : Int) (s : Span) : List Int := if o = 0 then primB s else if o = 1 then keyB (IntKind.u64.wrap s.start) ++ primB s else if o = 2 then keyB (IntKind.u64.wrap s.dur) ++ primB s else []
theorem u64_lo (n : Int) : 0 ≤ IntKind.u64.wrap n := by rw [IntKind.wrap_u64]; omega
theorem u64_hi (n : Int) : IntKind.u64.wrap n < 18446744073709551616 := by rw [IntKind.wrap_u64]; omega
section
variable {s : Span} {l8 : List S69} {l9 : List S71} {l10 : List S74}
theorem prim_f (k : Nat) (hs : SpanNums s) (hk : 9 ≤ k) : cambiumref18_Primary.f k s.trace s.id s.parent s.service s.op s.start s.dur s.status l8 l9 l10 = some (primB s) := by
  unfold cambiumref18_Primary.f
  have h1 := hs.1
  have h2 := hs.2.1
  simp only [Option.bind_some]
  rw [key01_f k s.trace h1.1 (by omega) hk]
  simp only [Option.bind_some, List.nil_append, List.length_nil, keyB_length]
  rw [if_pos (by omega)]
  rw [key01_f k s.id h2.1 (by omega) hk]
  simp only [Option.bind_some, keyB_length]
  rw [if_pos (by omega)]
  rfl
theorem bytesOf_length (b : ByteArray) : (bytesOf b).length = b.size := by simp [bytesOf]
theorem order_f (k : Nat) (o : Int) (hs : SpanNums s) (hk : 9 ≤ k) : cambiumref22_Key.f k o s.trace s.id s.parent s.service s.op s.start s.dur s.status l8 l9 l10 = some (orderB o s) := by
  unfold cambiumref22_Key.f orderB
  rw [prim_f k hs hk, key01_f k _ (u64_lo _) (u64_hi _) hk, key01_f k _ (u64_lo _) (u64_hi _) hk]
  simp only [Option.bind_some, keyB_length, primB_length]
  split
  · rfl
  · split
    · rw [if_pos (by omega)]
    · split
      · rw [if_pos (by omega)]
      · rfl
theorem at_f (k : Nat) (i : Int) (hs : SpanNums s) (hsv : s.service.size ≤ 32) (hop : s.op.size ≤ 32) (hi : 0 ≤ i ∧ i ≤ 4) (hk : 10 ≤ k) : cambiumlaw23_at.f k i s.trace s.id s.parent s.service s.op s.start s.dur s.status l8 l9 l10 = some (atB i s) := by
  obtain ⟨k, rfl⟩ : ∃ m, k = m + 1 := ⟨k - 1, by omega⟩
  unfold cambiumlaw23_at.f atB
  rw [prim_f _ hs (by omega)]
  simp only [Option.bind_some]
  split
  · rfl
  · rename_i h0
    unfold cambiumref18_Index.f indexB
    rw [cambiumref18_Index.j0]
    rw [cambiumref18_Index.j0]
    rw [prim_f _ hs (by omega), key01_f k _ (u64_lo _) (u64_hi _) (by omega), key01_f k _ (u64_lo _) (u64_hi _) (by omega)]
    have hi4 : i = 1 ∨ i = 2 ∨ i = 3 ∨ i = 4 := by omega
    have z1 := bytesOf_length s.service
    have z2 := bytesOf_length s.op
    rcases hi4 with rfl | rfl | rfl | rfl
    · simp only [if_pos, List.nil_append, List.length_nil, List.length_append, List.length_singleton, z1, z2, keyB_length, primB_length, Option.bind_some]
      simp (disch := omega) only [if_pos, if_neg, Option.bind_some, List.append_assoc]
      try rfl
    · simp only [if_pos, List.nil_append, List.length_nil, List.length_append, List.length_singleton, z1, z2, keyB_length, primB_length, Option.bind_some]
      simp (disch := omega) only [if_pos, if_neg, Option.bind_some, List.append_assoc]
      try rfl
    · simp only [if_pos, List.nil_append, List.length_nil, List.length_append, List.length_singleton, z1, z2, keyB_length, primB_length, Option.bind_some]
      simp (disch := omega) only [if_pos, if_neg, Option.bind_some, List.append_assoc]
      try rfl
    · simp only [if_pos, List.nil_append, List.length_nil, List.length_append, List.length_singleton, z1, z2, keyB_length, primB_length, Option.bind_some]
      simp (disch := omega) only [if_pos, if_neg, Option.bind_some, List.append_assoc]
      try rfl
/-- Small of a span answers. -/
theorem small16_l1 (k : Nat) : ∀ (d : Nat) (n i : Int), (l9.length : Int) - i ≤ d → 0 ≤ i → i ≤ l9.length → l9.length ≤ 9223372036854775807 → d < k → ∃ r, cambiumref16_Small.l1 k n i s.trace s.id s.parent s.service s.op s.start s.dur s.status l8 l9 l10 = some r := by
  induction k with
  | zero => intro d n i _ _ _ _ h; omega
  | succ k ih =>
    intro d n i hd h0 h1 hm hk
    rw [cambiumref16_Small.l1]
    by_cases c : i < (l9.length : Int)
    · rw [if_pos c]
      split
      · rw [wrap64_in' (n := i + 1) (by omega) (by omega)]
        exact ih (d - 1) _ _ (by omega) (by omega) (by omega) hm (by omega)
      · exact ⟨_, rfl⟩
    · rw [if_neg c]
      exact ⟨_, rfl⟩
theorem small16_l0 (k : Nat) : ∀ (d : Nat) (n i : Int), (l8.length : Int) - i ≤ d → 0 ≤ i → i ≤ l8.length → l8.length ≤ 9223372036854775807 → l9.length ≤ 9223372036854775807 → d + l9.length + 2 < k → ∃ r, cambiumref16_Small.l0 k n i s.trace s.id s.parent s.service s.op s.start s.dur s.status l8 l9 l10 = some r := by
  induction k with
  | zero => intro d n i _ _ _ _ _ h; omega
  | succ k ih =>
    intro d n i hd h0 h1 hm hm9 hk
    have hj : ∀ n, ∃ r, cambiumref16_Small.j1 k n s.trace s.id s.parent s.service s.op s.start s.dur s.status l8 l9 l10 = some r := by
      intro n
      obtain ⟨k', rfl⟩ : ∃ m, k = m + 1 := ⟨k - 1, by omega⟩
      rw [cambiumref16_Small.j1]
      exact small16_l1 _ l9.length _ _ (by omega) (by omega) (by omega) hm9 (by omega)
    rw [cambiumref16_Small.l0]
    by_cases c : i < (l8.length : Int)
    · rw [if_pos c]
      split
      · rw [wrap64_in' (n := i + 1) (by omega) (by omega)]
        exact ih (d - 1) _ _ (by omega) (by omega) (by omega) hm hm9 (by omega)
      · exact hj _
    · rw [if_neg c]
      exact hj _
theorem small16_f (hm : l8.length ≤ 9223372036854775807) (hm9 : l9.length ≤ 9223372036854775807) : ∃ k r, cambiumref16_Small.f k s.trace s.id s.parent s.service s.op s.start s.dur s.status l8 l9 l10 = some r := by
  obtain ⟨r, h⟩ := small16_l0 (s := s) (l8 := l8) (l9 := l9) (l10 := l10) (l8.length + l9.length + 3) l8.length (wrap64 ((s.service.size : Int) + (s.op.size : Int))) 0 (by omega) (by omega) (by omega) hm hm9 (by omega)
  exact ⟨_, r, h⟩
end

/-! Texts. -/
theorem rune_l0 (s : ByteArray) (hs : s.size ≤ 100000) (n : Int) (hn : n ≤ s.size) (hn1 : 1 ≤ n) (k : Nat) : ∀ (d : Nat) (x lo i : Int), n - i ≤ d → 1 ≤ i → i ≤ n → d < k → ∃ v m, cambiumref02_Rune.l0 k s n x lo i = some (v, m) ∧ 1 ≤ m ∧ m ≤ s.size := by
  induction k with
  | zero => intro d x lo i _ _ _ h; omega
  | succ k ih =>
    intro d x lo i hd h1 hin hk
    rw [cambiumref02_Rune.l0]
    by_cases c : i < n
    · rw [if_pos c, if_pos (by omega), if_pos (by omega)]
      split
      · rw [wrap64_in' (n := i + 1) (by omega) (by omega)]
        exact ih (d - 1) _ _ _ (by omega) (by omega) (by omega) (by omega)
      · exact ⟨_, _, rfl, by omega, by omega⟩
    · rw [if_neg c]
      repeat' split
      all_goals exact ⟨_, _, rfl, by omega, by omega⟩
theorem rune_j3 (s : ByteArray) (hs : s.size ≤ 100000) (h0 : 0 < s.size) (n x lo : Int) (hn1 : 1 ≤ n) (hn4 : n ≤ 4) (k : Nat) (hk : 6 < k) : ∃ v m, cambiumref02_Rune.j3 k s n x lo = some (v, m) ∧ 1 ≤ m ∧ m ≤ s.size := by
  obtain ⟨k, rfl⟩ : ∃ m, k = m + 1 := ⟨k - 1, by omega⟩
  rw [cambiumref02_Rune.j3]
  split
  · exact ⟨_, _, rfl, by omega, by omega⟩
  · exact rune_l0 s hs n (by omega) hn1 k 4 _ _ _ (by omega) (by omega) (by omega) (by omega)
theorem rune_j2 (s : ByteArray) (hs : s.size ≤ 100000) (h0 : 0 < s.size) (c x lo : Int) (b : Bool) (k : Nat) (hk : 7 < k) : ∃ v m, cambiumref02_Rune.j2 k s c 1 x lo b = some (v, m) ∧ 1 ≤ m ∧ m ≤ s.size := by
  obtain ⟨k, rfl⟩ : ∃ m, k = m + 1 := ⟨k - 1, by omega⟩
  rw [cambiumref02_Rune.j2]
  split
  · exact rune_j3 s hs h0 _ _ _ (by omega) (by omega) k (by omega)
  · split
    · exact ⟨_, _, rfl, by omega, by omega⟩
    · exact rune_j3 s hs h0 _ _ _ (by omega) (by omega) k (by omega)
theorem rune_j1 (s : ByteArray) (hs : s.size ≤ 100000) (h0 : 0 < s.size) (c x lo : Int) (b : Bool) (k : Nat) (hk : 8 < k) : ∃ v m, cambiumref02_Rune.j1 k s c 1 x lo b = some (v, m) ∧ 1 ≤ m ∧ m ≤ s.size := by
  obtain ⟨k, rfl⟩ : ∃ m, k = m + 1 := ⟨k - 1, by omega⟩
  rw [cambiumref02_Rune.j1]
  split
  · exact rune_j3 s hs h0 _ _ _ (by omega) (by omega) k (by omega)
  · split
    · exact rune_j2 s hs h0 _ _ _ _ k (by omega)
    · exact rune_j2 s hs h0 _ _ _ _ k (by omega)
theorem rune_j0 (s : ByteArray) (hs : s.size ≤ 100000) (h0 : 0 < s.size) (c x lo : Int) (b : Bool) (k : Nat) (hk : 9 < k) : ∃ v m, cambiumref02_Rune.j0 k s c 1 x lo b = some (v, m) ∧ 1 ≤ m ∧ m ≤ s.size := by
  obtain ⟨k, rfl⟩ : ∃ m, k = m + 1 := ⟨k - 1, by omega⟩
  rw [cambiumref02_Rune.j0]
  split
  · exact rune_j3 s hs h0 _ _ _ (by omega) (by omega) k (by omega)
  · split
    · exact rune_j1 s hs h0 _ _ _ _ k (by omega)
    · exact rune_j1 s hs h0 _ _ _ _ k (by omega)
theorem rune_f (s : ByteArray) (hs : s.size ≤ 100000) (h0 : 0 < s.size) (k : Nat) (hk : 9 < k) : ∃ v m, cambiumref02_Rune.f k s = some (v, m) ∧ 1 ≤ m ∧ m ≤ s.size := by
  unfold cambiumref02_Rune.f
  rw [if_pos (by omega)]
  split
  · exact rune_j0 s hs h0 _ _ _ _ k hk
  · exact rune_j0 s hs h0 _ _ _ _ k hk
theorem runes_l0 (s : ByteArray) (hs : s.size ≤ 100000) (k : Nat) : ∀ (d : Nat) (xs ys : List Int) (i : Int), (s.size : Int) - i ≤ d → 0 ≤ i → i ≤ s.size → xs.length ≤ i → ys.length ≤ i → d + 10 < k → ∃ rs ats, cambiumref02_Runes.l0 k s xs ys i = some (rs, ats) ∧ rs.length ≤ s.size := by
  induction k with
  | zero => intro d xs ys i _ _ _ _ _ h; omega
  | succ k ih =>
    intro d xs ys i hd h0 h1 hx hy hk
    rw [cambiumref02_Runes.l0]
    by_cases c : i < (s.size : Int)
    · rw [if_pos c, if_pos h0, if_pos h1]
      have hz : (s.extract i.toNat s.size).size = s.size - i.toNat := by simp
      obtain ⟨v, m, e, m1, m2⟩ := rune_f (s.extract i.toNat s.size) (by omega) (by omega) k (by omega)
      rw [e]
      simp only [Option.bind_some]
      rw [if_pos (by omega), if_pos (by omega), wrap64_in' (n := i + m) (by omega) (by omega)]
      exact ih (d - 1) _ _ _ (by omega) (by omega) (by omega) (by simp; omega) (by simp; omega) (by omega)
    · rw [if_neg c]
      exact ⟨_, _, rfl, by omega⟩
theorem runes_f (s : ByteArray) (hs : s.size ≤ 100000) (k : Nat) (hk : s.size + 10 < k) : ∃ rs ats, cambiumref02_Runes.f k s = some (rs, ats) ∧ rs.length ≤ s.size :=
  runes_l0 s hs k s.size [] [] 0 (by omega) (by omega) (by omega) (by simp) (by simp) hk
theorem signs_l0 (rs : List Int) (hs : rs.length ≤ 100000) (k : Nat) : ∀ (d : Nat) (xs : List Int) (i : Int), (rs.length : Int) - i ≤ d → 0 ≤ i → xs.length ≤ i → i ≤ 100001 → d + 1 < k → ∃ p, cambiumref02_signs.l0 k rs xs i = some p ∧ p.length ≤ 100001 := by
  induction k with
  | zero => intro d xs i _ _ _ _ h; omega
  | succ k ih =>
    intro d xs i hd h0 hx hi hk
    rw [cambiumref02_signs.l0]
    by_cases c : i < (rs.length : Int)
    · rw [if_pos c, if_pos h0]
      rw [wrap64_in' (n := i + 1) (by omega) (by omega), wrap64_in' (n := i + 1 + 1) (by omega) (by omega)]
      have hl : xs.length < 17592186044416 := by omega
      repeat' split
      all_goals first
        | exact ih (d - 1) _ _ (by omega) (by omega) (by simp; omega) (by omega) (by omega)
        | (exfalso; omega)
    · rw [if_neg c]
      exact ⟨_, rfl, by omega⟩
theorem signs_f (s : ByteArray) (hs : s.size ≤ 100000) (k : Nat) (hk : s.size + 10 < k) : ∃ p, cambiumref02_signs.f k s = some p ∧ p.length ≤ 100001 := by
  obtain ⟨rs, ats, e, hl⟩ := runes_f s hs k hk
  unfold cambiumref02_signs.f
  rw [e]
  simp only [Option.bind_some]
  exact signs_l0 rs (by omega) k rs.length _ _ (by omega) (by omega) (by simp) (by omega) (by omega)
end Go.Proofs.Ytmckgcooehdbaaa
