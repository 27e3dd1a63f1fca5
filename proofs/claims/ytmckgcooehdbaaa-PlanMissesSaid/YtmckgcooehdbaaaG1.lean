/- The plain law of PlanMisses, joined: what a plan is, and where the keys of the spans stand of which the query holds. No condition beyond those that each theorem names. -/
import Derived.Test.YtmckgcooehdbaaaF9
set_option linter.unusedVariables false
set_option linter.unusedSimpArgs false
namespace Go.Proofs.Ytmckgcooehdbaaa
open Go.RowKit Go.Proofs.YtmckgcooehdbaaaW.PrintWords

theorem bytesB_of (s : ByteArray) : bytesB s = bytesOf s := by simp [bytesB, bytesOf, ByteArray.toList_eq]
/-- What the law knows of a span of which the query holds. -/
structure Held (ts : List Term) (s : Span) : Prop where
  nums : SpanNums s
  start : 0 ≤ s.start
  dur : 0 ≤ s.dur
  holds : MatchP ts s
theorem wanted_text {f : List UInt8} {ts : List Term} {text : ByteArray} {b : Bool} {s : Span} (hw : Wanted f ts text b) (hb : b = true) (h1 : ∀ t ∈ ts, OneP t) (hm : MatchP ts s) (hf : f = svcL ∨ f = opL) : (f = svcL → text = s.service) ∧ (f = opL → text = s.op) := by
  rcases hw with ⟨h, _⟩ | ⟨_, t, ht, hwp, rfl⟩
  · rw [hb] at h; cases h
  · unfold wantP at hwp
    simp only [Bool.and_eq_true, beq_iff_eq] at hwp
    obtain ⟨hfe, hr⟩ := hwp
    have hT : isText t.field.toList = true ∧ isNum t.field.toList = false := by
      rw [hfe]
      rcases hf with rfl | rfl <;> decide
    have hk := (h1 t ht).1 hT.1
    have hh := (hm t ht).2 hT.2 hr hk
    exact ⟨fun e => hh.1 (hfe.trans e), fun e => hh.2 (hfe.trans e)⟩
theorem u64_id {n : Int} (h0 : 0 ≤ n) (h1 : n ≤ 9223372036854775807) : IntKind.u64.wrap n = n := by rw [IntKind.wrap_u64]; omega
def head1 (s : Span) : List Int := bytesB s.service ++ [0]
def head2 (s : Span) : List Int := bytesB s.service ++ [0] ++ (bytesB s.op ++ [0])
section
variable {ts : List Term} {s : Span}
theorem Held.hi (h : Held ts s) : s.start ≤ 9223372036854775807 ∧ s.dur ≤ 9223372036854775807 := ⟨h.nums.2.2.1.2, h.nums.2.2.2.2⟩
theorem at_2 (h : Held ts s) : atB 2 s = head2 s ++ (keyB s.start ++ primB s) := by
  simp [atB, indexB, head2, bytesB_of, u64_id h.start h.hi.1, List.append_assoc]
theorem at_1 (h : Held ts s) : atB 1 s = head1 s ++ (keyB s.start ++ primB s) := by
  simp [atB, indexB, head1, bytesB_of, u64_id h.start h.hi.1, List.append_assoc]
theorem at_4 (h : Held ts s) : atB 4 s = [] ++ (keyB s.start ++ primB s) := by
  simp [atB, indexB, u64_id h.start h.hi.1]
theorem at_3 (h : Held ts s) : atB 3 s = [] ++ (keyB s.dur ++ primB s) := by
  simp [atB, indexB, u64_id h.dur h.hi.2]
theorem at_0 : atB 0 s = [] ++ (keyB s.trace ++ keyB s.id) := by simp [atB, primB]
theorem head1_bytes (s : Span) : ByteL (head1 s) := (ByteL.text _).append (fun x hx => by simp at hx; omega)
theorem head2_bytes (s : Span) : ByteL (head2 s) := ((ByteL.text _).append (fun x hx => by simp at hx; omega)).append ((ByteL.text _).append (fun x hx => by simp at hx; omega))
theorem in_start (h : Held ts s) (h1 : ∀ t ∈ ts, OneP t) (hN : NumsOk ts) : InBd (boundsF startL ts) s.start :=
  bounds_in (.inl rfl) h.dur h.start ⟨fun _ => rfl, fun e => absurd e (by decide), fun e => absurd e (by decide)⟩ h.start ts _ h1 hN h.holds ⟨h.start, .inl h.hi.1⟩
theorem in_dur (h : Held ts s) (h1 : ∀ t ∈ ts, OneP t) (hN : NumsOk ts) : InBd (boundsF durL ts) s.dur :=
  bounds_in (.inr (.inl rfl)) h.dur h.start ⟨fun e => absurd e (by decide), fun _ => rfl, fun e => absurd e (by decide)⟩ h.dur ts _ h1 hN h.holds ⟨h.dur, .inl h.hi.2⟩
theorem in_trace (h : Held ts s) (h1 : ∀ t ∈ ts, OneP t) (hN : NumsOk ts) : InBd (boundsF traceL ts) s.trace :=
  bounds_in (.inr (.inr rfl)) h.dur h.start ⟨fun e => absurd e (by decide), fun e => absurd e (by decide), fun _ => rfl⟩ h.nums.1.1 ts _ h1 hN h.holds ⟨h.nums.1.1, .inr rfl⟩
/-- A span of which the query holds is not outside of its plan. -/
def Lies (k : List Int) (p : Plan) : Prop := lessB k p.from_ = false ∧ (0 < p.to_.length → lessB k p.to_ = true)
theorem within_lies (i : Int) (head us : List Int) (f : List UInt8) (srt : Bool) (hH : ByteL head) {n : Int} (h0 : 0 ≤ n) (h1 : n ≤ 18446744073709551615) (hb : InBd (boundsF f ts) n) (hN : NumsOk ts) : Lies (head ++ (keyB n ++ us)) (withinF i head (boundsF f ts) srt) :=
  within_in head us hH _ h0 (by omega) hb ⟨(boundsF_lo f ts).1, boundsF_hi f ts hN⟩ (boundsF_lo f ts).2
theorem begin_lies (i : Int) (head us : List Int) (hH : ByteL head) : Lies (head ++ us) (beginF i head) :=
  ⟨lessB_prefix _ _, fun hl => less_behind hH hl (.inl ⟨us, rfl⟩)⟩
theorem plan_in {o : Int} {r1 r2 r3 r4 : Bool} {sv ov : ByteArray} {sb ob : Bool} (h : Held ts s) (hM : MayP ts o) (hN : NumsOk ts) (h1 : Wanted svcL ts sv sb) (h2 : Wanted opL ts ov ob) :
    Lies (atB (planF ts o r1 r2 r3 r4 sv sb ov ob).index s) (planF ts o r1 r2 r3 r4 sv sb ov ob) := by
  have hsv : sb = true → sv = s.service := fun e => (wanted_text h1 e hM.1 h.holds (.inl rfl)).1 rfl
  have hov : ob = true → ov = s.op := fun e => (wanted_text h2 e hM.1 h.holds (.inr rfl)).2 rfl
  unfold planF
  split
  · rename_i c
    simp only [Bool.and_eq_true] at c
    rw [hsv c.2.1.1, hov c.2.1.2]
    show Lies (atB 2 s) _
    rw [at_2 h]
    exact within_lies 2 (head2 s) _ _ _ (head2_bytes s) h.start (by have := h.hi; omega) (in_start h hM.1 hN) hN
  · split
    · rename_i c
      simp only [Bool.and_eq_true] at c
      rw [hsv c.2.1]
      show Lies (atB 1 s) _
      rw [at_1 h]
      exact within_lies 1 (head1 s) _ _ _ (head1_bytes s) h.start (by have := h.hi; omega) (in_start h hM.1 hN) hN
    · split
      · show Lies (atB 4 s) _
        rw [at_4 h]
        exact within_lies 4 [] _ _ _ ByteL.nil h.start (by have := h.hi; omega) (in_start h hM.1 hN) hN
      · split
        · show Lies (atB 3 s) _
          rw [at_3 h]
          exact within_lies 3 [] _ _ _ ByteL.nil h.dur (by have := h.hi; omega) (in_dur h hM.1 hN) hN
        · split
          · rename_i c
            simp only [Bool.and_eq_true] at c
            rw [hsv c.2.1.1, hov c.2.1.2]
            show Lies (atB 2 s) _
            rw [at_2 h]
            exact begin_lies 2 (head2 s) _ (head2_bytes s)
          · split
            · rename_i c
              simp only [Bool.and_eq_true] at c
              rw [hsv c.2.1]
              show Lies (atB 1 s) _
              rw [at_1 h]
              exact begin_lies 1 (head1 s) _ (head1_bytes s)
            · show Lies (atB 0 s) _
              rw [at_0]
              exact within_lies 0 [] _ _ _ ByteL.nil h.nums.1.1 h.nums.1.2 (in_trace h hM.1 hN) hN
end
/-- Where the plan is sorted, keys stand as orders' keys do. -/
theorem plan_sorted {ts : List Term} {s0 s1 : Span} {o : Int} {r1 r2 r3 r4 : Bool} {sv ov : ByteArray} {sb ob : Bool} (h0 : Held ts s0) (h1' : Held ts s1) (hM : MayP ts o) (h1 : Wanted svcL ts sv sb) (h2 : Wanted opL ts ov ob)
    (hs : (planF ts o r1 r2 r3 r4 sv sb ov ob).sorted = true) :
    lessB (atB (planF ts o r1 r2 r3 r4 sv sb ov ob).index s0) (atB (planF ts o r1 r2 r3 r4 sv sb ov ob).index s1) = lessB (orderB o s0) (orderB o s1) := by
  have hsv : ∀ s, Held ts s → sb = true → sv = s.service := fun s h e => (wanted_text h1 e hM.1 h.holds (.inl rfl)).1 rfl
  have hov : ∀ s, Held ts s → ob = true → ov = s.op := fun s h e => (wanted_text h2 e hM.1 h.holds (.inr rfl)).2 rfl
  have o1 : ∀ s, Held ts s → o = 1 → orderB o s = keyB s.start ++ primB s := fun s h e => by
    subst e
    simp [orderB, u64_id h.start h.hi.1]
  have o2 : ∀ s, Held ts s → o = 2 → orderB o s = keyB s.dur ++ primB s := fun s h e => by
    subst e
    simp [orderB, u64_id h.dur h.hi.2]
  unfold planF at hs ⊢
  split at hs
  · rename_i c
    rw [if_pos c]
    simp only [Bool.and_eq_true, beq_iff_eq] at c
    show lessB (atB 2 s0) (atB 2 s1) = _
    have e1 : head2 s0 = head2 s1 := by
      unfold head2
      rw [← hsv s0 h0 c.2.1.1, ← hsv s1 h1' c.2.1.1, ← hov s0 h0 c.2.1.2, ← hov s1 h1' c.2.1.2]
    rw [at_2 h0, at_2 h1', e1, lessB_append, o1 s0 h0 c.1, o1 s1 h1' c.1]
  · rename_i c0
    rw [if_neg c0]
    split at hs
    · rename_i c
      rw [if_pos c]
      simp only [Bool.and_eq_true, beq_iff_eq] at c
      show lessB (atB 1 s0) (atB 1 s1) = _
      have e1 : head1 s0 = head1 s1 := by
        unfold head1
        rw [← hsv s0 h0 c.2.1, ← hsv s1 h1' c.2.1]
      rw [at_1 h0, at_1 h1', e1, lessB_append, o1 s0 h0 c.1, o1 s1 h1' c.1]
    · rename_i c1
      rw [if_neg c1]
      split at hs
      · rename_i c
        rw [if_pos c]
        simp only [Bool.and_eq_true, beq_iff_eq] at c
        show lessB (atB 4 s0) (atB 4 s1) = _
        rw [at_4 h0, at_4 h1', lessB_append, o1 s0 h0 c.1, o1 s1 h1' c.1]
      · rename_i c2
        rw [if_neg c2]
        split at hs
        · rename_i c
          rw [if_pos c]
          simp only [Bool.and_eq_true, beq_iff_eq] at c
          show lessB (atB 3 s0) (atB 3 s1) = _
          rw [at_3 h0, at_3 h1', lessB_append, o2 s0 h0 c.1, o2 s1 h1' c.1]
        · rename_i c3
          rw [if_neg c3]
          split at hs
          · exact absurd hs (by simp [beginF])
          · rename_i c4
            rw [if_neg c4]
            split at hs
            · exact absurd hs (by simp [beginF])
            · rename_i c5
              rw [if_neg c5]
              have ho : o = 0 := by simpa [withinF] using hs
              subst ho
              rfl
end Go.Proofs.Ytmckgcooehdbaaa
