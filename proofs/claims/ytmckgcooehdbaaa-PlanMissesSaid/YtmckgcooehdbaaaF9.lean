/- The plain law of PlanMisses: a span of which a query holds lies within its plan; where the plan is sorted, keys stand as orders' keys do. No condition beyond those that each theorem names. -/
import Derived.Test.YtmckgcooehdbaaaF2
import Derived.Test.YtmckgcooehdbaaaE1
set_option linter.unusedVariables false
set_option linter.unusedSimpArgs false
namespace Go.Proofs.Ytmckgcooehdbaaa
open Go.RowKit Go.Proofs.YtmckgcooehdbaaaW.PrintWords

/-! Rows of bytes by their order. -/
theorem lessB_irrefl : ∀ xs : List Int, lessB xs xs = false
  | [] => rfl
  | x :: xs => by simp [lessB, lessB_irrefl xs]
theorem lessB_append : ∀ (h xs ys : List Int), lessB (h ++ xs) (h ++ ys) = lessB xs ys
  | [], _, _ => rfl
  | a :: h, xs, ys => by simp [lessB, lessB_append h xs ys]
theorem lessB_prefix : ∀ (xs ys : List Int), lessB (xs ++ ys) xs = false
  | [], [] => rfl
  | [], _ :: _ => rfl
  | x :: xs, ys => by simp [lessB, lessB_prefix xs ys]
/-- Rows of one length: Less, or the same, or the other way. -/
theorem lessB_head : ∀ (xs ys us vs : List Int), xs.length = ys.length → lessB (xs ++ us) (ys ++ vs) = if xs = ys then lessB us vs else lessB xs ys
  | [], [], us, vs, _ => by simp
  | x :: xs, y :: ys, us, vs, h => by
    have hl : xs.length = ys.length := by simpa using h
    simp only [List.cons_append, lessB, List.cons.injEq]
    by_cases e : x = y
    · subst e
      simp [lessB_head xs ys us vs hl]
    · simp [e]
/-- The eight bytes of a number, in order. -/
theorem keyB_less {a b : Int} (ha : 0 ≤ a) (ha2 : a < 18446744073709551616) (hb : 0 ≤ b) (hb2 : b < 18446744073709551616) : lessB (keyB a) (keyB b) = decide (a < b) := by
  unfold keyB
  simp only [lessB]
  rw [Bool.eq_iff_iff]
  repeat' split
  all_goals (simp only [decide_eq_true_eq, Bool.false_eq_true, false_iff]; omega)
theorem keyB_inj {a b : Int} (ha : 0 ≤ a) (ha2 : a < 18446744073709551616) (hb : 0 ≤ b) (hb2 : b < 18446744073709551616) (h : keyB a = keyB b) : a = b := by
  unfold keyB at h
  simp only [List.cons.injEq, and_true] at h
  omega
theorem keyB_lt {a b : Int} {us : List Int} (ha : 0 ≤ a) (ha2 : a < 18446744073709551616) (hb : 0 ≤ b) (hb2 : b < 18446744073709551616) (h : a < b) (vs : List Int) : lessB (keyB a ++ us) (keyB b ++ vs) = true := by
  rw [lessB_head (keyB a) (keyB b) us vs rfl, if_neg (fun e => by have := keyB_inj ha ha2 hb hb2 e; omega), keyB_less ha ha2 hb hb2]
  simpa using h
theorem keyB_ge {a b : Int} {us : List Int} (ha : 0 ≤ a) (ha2 : a < 18446744073709551616) (hb : 0 ≤ b) (hb2 : b < 18446744073709551616) (h : b ≤ a) : lessB (keyB a ++ us) (keyB b) = false := by
  have h1 := lessB_head (keyB a) (keyB b) us [] rfl
  rw [List.append_nil] at h1
  rw [h1]
  split
  · cases us <;> rfl
  · rw [keyB_less ha ha2 hb hb2]
    simp
    omega
/-! What stands behind all that begin so. -/
theorem behindN_spec (P : List Int) : ∀ m, m ≤ P.length → behindN P m ≤ m ∧ (∀ k, behindN P m = k + 1 → rd P k ≠ 255)
  | 0, _ => ⟨Nat.le_refl _, fun k h => by cases h⟩
  | m + 1, h => by
    have ih := behindN_spec P m (by omega)
    unfold behindN
    split
    · exact ⟨by omega, ih.2⟩
    · rename_i hne
      exact ⟨Nat.le_refl _, fun k hk => by cases hk; exact hne⟩
theorem behind_form {P : List Int} (hP : ByteL P) (h : 0 < (behindB P).length) : ∃ Q x T, P = Q ++ x :: T ∧ behindB P = Q ++ [x + 1] := by
  have hs := behindN_spec P P.length (Nat.le_refl _)
  unfold behindB at h ⊢
  generalize behindN P P.length = m at *
  cases m with
  | zero => simp at h
  | succ k =>
    rw [if_neg (by omega)] at h ⊢
    have hk : k < P.length := by omega
    have hx := hs.2 k rfl
    have hr : rd P (k : Int) = P[k] := by simp [rd, hk]
    refine ⟨P.take k, P[k], P.drop (k + 1), by rw [List.getElem_cons_drop, List.take_append_drop], ?_⟩
    have hb := hP P[k] (List.getElem_mem hk)
    rw [hr] at hx
    have e1 : ((k + 1 - 1 : Nat) : Int) = (k : Int) := by omega
    have e2 : (P[k] + 1) % 256 = P[k] + 1 := by omega
    rw [e1, hr, e2, Nat.add_sub_cancel, List.take_succ_eq_append_getElem hk]
    rw [List.set_append_right _ _ (by simp; omega)]
    simp [Nat.min_eq_left (Nat.le_of_lt hk)]
theorem less_up : ∀ (k Q : List Int) (x : Int) (T : List Int), lessB k (Q ++ x :: T) = true → lessB k (Q ++ [x + 1]) = true
  | [], [], x, T, _ => rfl
  | [], _ :: _, x, T, _ => rfl
  | y :: k, [], x, T, h => by
    simp only [List.nil_append, lessB] at h ⊢
    by_cases e : y = x
    · rw [if_neg (by omega)]; simp; omega
    · rw [if_neg e] at h
      simp at h
      rw [if_neg (by omega)]; simp; omega
  | y :: k, q :: Q, x, T, h => by
    simp only [List.cons_append, lessB] at h ⊢
    by_cases e : y = q
    · rw [if_pos e] at h ⊢
      exact less_up k Q x T h
    · rw [if_neg e] at h ⊢
      exact h
theorem less_behind {P k : List Int} (hP : ByteL P) (h : 0 < (behindB P).length) (hk : (∃ r, k = P ++ r) ∨ lessB k P = true) : lessB k (behindB P) = true := by
  obtain ⟨Q, x, T, e1, e2⟩ := behind_form hP h
  rw [e2]
  rcases hk with ⟨r, rfl⟩ | hk
  · rw [e1, List.append_assoc, lessB_append]
    simp only [List.cons_append, lessB]
    rw [if_neg (by omega)]
    simp; omega
  · rw [e1] at hk
    exact less_up k Q x T hk

/-! The bounds, of numbers up to 2^64 - 1. -/
def NV (f : List UInt8) (s : Span) (n : Int) : Prop := (f = startL → n = s.start) ∧ (f = durL → n = s.dur) ∧ (f = traceL → n = s.trace)
def InBd (b : Int × Int) (n : Int) : Prop := b.1 ≤ n ∧ (n ≤ b.2 ∨ b.2 = 9223372036854775807)
theorem field_num3 {f : List UInt8} (h : f = startL ∨ f = durL ∨ f = traceL) : isText f = false ∧ isNum f = true := by
  rcases h with rfl | rfl | rfl <;> decide
theorem narrowed_in {t : Term} {s : Span} {b : Int × Int} {nn : Int} (hf : t.field.toList = startL ∨ t.field.toList = durL ∨ t.field.toList = traceL) (h1 : OneP t) (hm : t.num ≤ 9223372036854775807) (hh : HoldP t s) (hd : 0 ≤ s.dur) (hst : 0 ≤ s.start)
    (hn : NV t.field.toList s nn) (hnn : 0 ≤ nn) (hb : InBd b nn) : InBd (narrowed t b) nn := by
  obtain ⟨n1, n2⟩ := field_num3 hf
  obtain ⟨-, h0⟩ := h1.2.1 n1 n2
  obtain ⟨n, want, hni, hw, hr⟩ := hh.1 n2
  have hwn : want = t.num := hw h0 hm
  have hnn2 : n = nn := by
    rcases hf with h | h | h
    · rw [hni.1 h hst, hn.1 h]
    · rw [hni.2.1 h hd, hn.2.1 h]
    · rw [hni.2.2 h, hn.2.2 h]
  subst hwn
  subst hnn2
  unfold relF at hr
  unfold InBd at hb ⊢
  unfold narrowed
  by_cases r0 : t.rel = 0
  · simp [r0] at hr ⊢; omega
  · by_cases r2 : t.rel = 2
    · simp [r2] at hr ⊢; simp only [wrap64]; omega
    · by_cases r3 : t.rel = 3
      · simp [r3] at hr ⊢; omega
      · by_cases r4 : t.rel = 4
        · simp [r4] at hr ⊢; simp only [wrap64]; split <;> omega
        · by_cases r5 : t.rel = 5
          · simp [r5] at hr ⊢; omega
          · simp [r0, r2, r3, r4, r5]; omega
theorem bounds_in {f : List UInt8} {s : Span} {nn : Int} (hf : f = startL ∨ f = durL ∨ f = traceL) (hd : 0 ≤ s.dur) (hst : 0 ≤ s.start) (hn : NV f s nn) (hnn : 0 ≤ nn) :
    ∀ (ts : List Term) (b : Int × Int), (∀ t ∈ ts, OneP t) → NumsOk ts → MatchP ts s → InBd b nn → InBd (ts.foldl (boundStep f) b) nn
  | [], b, _, _, _, hb => hb
  | t :: ts, b, h1, h2, h3, hb => by
    simp only [List.foldl_cons]
    refine bounds_in hf hd hst hn hnn ts _ (fun u hu => h1 u (by simp [hu])) (fun u hu => h2 u (by simp [hu])) (fun u hu => h3 u (by simp [hu])) ?_
    unfold boundStep
    split
    · rename_i e
      exact narrowed_in (by rw [e]; exact hf) (h1 t (by simp)) (h2 t (by simp)).2 (h3 t (by simp)) hd hst (by rw [e]; exact hn) hnn hb
    · exact hb
theorem boundsF_lo (f : List UInt8) (ts : List Term) : 0 ≤ (boundsF f ts).1 ∧ (boundsF f ts).2 ≤ 9223372036854775807 := by
  have h : ∀ (ts : List Term) (b : Int × Int), 0 ≤ b.1 ∧ b.2 ≤ 9223372036854775807 → 0 ≤ (ts.foldl (boundStep f) b).1 ∧ (ts.foldl (boundStep f) b).2 ≤ 9223372036854775807 := by
    intro ts
    induction ts with
    | nil => exact fun b h => h
    | cons t ts ih =>
      intro b hb
      refine ih _ ?_
      unfold boundStep
      split
      · have := narrowed_mono t b
        omega
      · exact hb
  exact h ts _ (by decide)
theorem boundsF_hi (f : List UInt8) (ts : List Term) (hN : NumsOk ts) : (boundsF f ts).1 ≤ 9223372036854775807 := by
  have h : ∀ (ts : List Term) (b : Int × Int), NumsOk ts → b.1 ≤ 9223372036854775807 → (ts.foldl (boundStep f) b).1 ≤ 9223372036854775807 := by
    intro ts
    induction ts with
    | nil => exact fun b _ h => h
    | cons t ts ih =>
      intro b hN hb
      refine ih _ (fun u hu => hN u (by simp [hu])) ?_
      have ht := hN t (by simp)
      unfold boundStep
      split
      · unfold narrowed
        repeat' split
        all_goals first | omega | (simp only [wrap64] at *; omega) | (simp only []; omega)
      · exact hb
  exact h ts _ hN (by decide)

/-- A key behind a head lies within the head's plan. -/
theorem within_in (head us : List Int) (hH : ByteL head) (b : Int × Int) {n : Int} (h0 : 0 ≤ n) (h1 : n < 18446744073709551616) (hb : InBd b n) (hlo : 0 ≤ b.1 ∧ b.1 ≤ 9223372036854775807) (hhi : b.2 ≤ 9223372036854775807) :
    lessB (head ++ (keyB n ++ us)) (head ++ keyB b.1) = false ∧ (0 < (toB head b.2).length → lessB (head ++ (keyB n ++ us)) (toB head b.2) = true) := by
  refine ⟨by rw [lessB_append]; exact keyB_ge h0 h1 hlo.1 (by omega) hb.1, fun hl => ?_⟩
  unfold toB at hl ⊢
  split at hl
  · rename_i hlt
    rw [if_pos hlt]
    have hn2 : n ≤ b.2 := by rcases hb.2 with h | h <;> omega
    have hmx : max b.2 0 = b.2 := by omega
    rw [hmx] at hl ⊢
    refine less_behind (hH.append (ByteL.key _)) hl ?_
    by_cases e : n = b.2
    · exact .inl ⟨us, by rw [e, List.append_assoc]⟩
    · refine .inr ?_
      rw [lessB_append]
      have := keyB_lt (us := us) h0 h1 (show 0 ≤ b.2 by omega) (by omega) (show n < b.2 by omega) []
      rwa [List.append_nil] at this
  · rename_i hlt
    rw [if_neg hlt]
    exact less_behind hH hl (.inl ⟨_, rfl⟩)
end Go.Proofs.Ytmckgcooehdbaaa
