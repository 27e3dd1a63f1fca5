/- For every query, all that is ready and every two spans: no span of which a query holds is outside of its plan; where the plan is sorted, keys stand as orders' keys do: the law PlanMisses returns true, for every input, under no condition. -/
import Derived.Test.YtmckgcooehdbaaaC4
import Derived.Test.YtmckgcooehdbaaaG3
set_option linter.unusedVariables false
set_option linter.unusedSimpArgs false
namespace Go.Proofs.Ytmckgcooehdbaaa
open Go.ChangeShapes Go.WideShapes Go.ChangeAt Go.RowKit Go.Deep

theorem cells_spans : Try.prog.cellsOf 32 = 22 := by kernel_rfl
section
variable {H : Type} {enc : TypeId × Value → H} {W : World} {base : Nat} {spare : Nat → Bool} {held : Bool}
theorem read_span_in {fuel : Nat} {cs : List Value} {x : DataW H × List MemPlace} (h : DataW.trod enc Try.prog W base spare held fuel 31 cs = some x) :
    ∃ s : Span, cs = [.int .u64 s.trace, .int .u64 s.id, .int .u64 s.parent, .string s.service, .string s.op, .int .i64 s.start, .int .i64 s.dur, .int .i64 s.status, .slice s.A1 s.n1 s.c1, .slice s.A2 s.n2 s.c2, .slice s.A3 s.n3 s.c3] ∧ SpanIn W s := by
  obtain ⟨s, ats, es, ls, e, hs, hr⟩ := read_span h
  rw [e] at h
  exact ⟨s, e, hs, read_caps h, ⟨ats, es, ls, hr⟩, hr.a.max, hr.e.max⟩
/-- What the cells of two spans read as. -/
theorem read_spans {fuel : Nat} {cs : List Value} {x : DataW H × List MemPlace} (h : DataW.trod enc Try.prog W base spare held fuel 32 cs = some x) :
    ∃ s0 s1 : Span, cs = [.int .u64 s0.trace, .int .u64 s0.id, .int .u64 s0.parent, .string s0.service, .string s0.op, .int .i64 s0.start, .int .i64 s0.dur, .int .i64 s0.status, .slice s0.A1 s0.n1 s0.c1, .slice s0.A2 s0.n2 s0.c2, .slice s0.A3 s0.n3 s0.c3, .int .u64 s1.trace, .int .u64 s1.id, .int .u64 s1.parent, .string s1.service, .string s1.op, .int .i64 s1.start, .int .i64 s1.dur, .int .i64 s1.status, .slice s1.A1 s1.n1 s1.c1, .slice s1.A2 s1.n2 s1.c2, .slice s1.A3 s1.n3 s1.c3] ∧ SpanIn W s0 ∧ SpanIn W s1 := by
  obtain ⟨xs, m, _, _, hl, hx, hel⟩ := DataW.trod_array Try.underlying32 h
  rw [cells_spans] at hl
  match cs, hl, xs, hx with
  | [c0, c1, c2, c3, c4, c5, c6, c7, c8, c9, c10, e0, e1, e2, e3, e4, e5, e6, e7, e8, e9, e10], _, [y0, y1], _ =>
    have k0 := hel 0 (by decide)
    have k1 := hel 1 (by decide)
    simp [cells_span] at k0 k1
    obtain ⟨s0, h0, i0⟩ := read_span_in k0
    obtain ⟨s1, h1, i1⟩ := read_span_in k1
    refine ⟨s0, s1, ?_, i0, i1⟩
    have h2 : [c0, c1, c2, c3, c4, c5, c6, c7, c8, c9, c10] ++ [e0, e1, e2, e3, e4, e5, e6, e7, e8, e9, e10] = [.int .u64 s0.trace, .int .u64 s0.id, .int .u64 s0.parent, .string s0.service, .string s0.op, .int .i64 s0.start, .int .i64 s0.dur, .int .i64 s0.status, .slice s0.A1 s0.n1 s0.c1, .slice s0.A2 s0.n2 s0.c2, .slice s0.A3 s0.n3 s0.c3] ++ [.int .u64 s1.trace, .int .u64 s1.id, .int .u64 s1.parent, .string s1.service, .string s1.op, .int .i64 s1.start, .int .i64 s1.dur, .int .i64 s1.status, .slice s1.A1 s1.n1 s1.c1, .slice s1.A2 s1.n2 s1.c2, .slice s1.A3 s1.n3 s1.c3] := by rw [h0, h1]
    exact h2
end

set_option maxRecDepth 100000 in
theorem misses_lifted (os : Os) (started : os.Started) (H : Type) (enc : TypeId × Value → H) :
    ReturnsInHanded {} Try.checked os 3 .any (Rows.planMissesSpec.pre6 enc Try.prog Try.f3 Rows.planMissesRow.domain false) (Rows.planMissesSpec.post enc Try.prog Try.f3 false true false false) := by
  refine returnsInHanded_of_change (C := Try.checked) own_knob started (by kernel_rfl) Try.func3
    (ChangeSpec.witness6 (enc := enc) (C := Try.checked) false ⟨#[], #[.agg #[.slice none 0 0, .int .i64 0], .agg #[.bool false, .bool false, .bool false, .bool false, .bool false], .agg #[.int .u64 0, .int .u64 0, .int .u64 0, .string ⟨#[]⟩, .string ⟨#[]⟩, .int .i64 0, .int .i64 0, .int .i64 0, .slice none 0 0, .slice none 0 0, .slice none 0 0, .int .u64 0, .int .u64 0, .int .u64 0, .string ⟨#[]⟩, .string ⟨#[]⟩, .int .i64 0, .int .i64 0, .int .i64 0, .slice none 0 0, .slice none 0 0, .slice none 0 0]], []⟩ 8 (by kernel_rfl) (by kernel_rfl) (by kernel_rfl) (by kernel_rfl)) ?_
  intro W base args ds gs before hval0 hW hcnd _
  have hval : ∀ (j : Nat) t v, Try.f3.params[j]? = some t → args[j]? = some v → Value.okWide Try.prog W .any base t v := hval0
  have hW' := hW
  obtain ⟨p, q, hA0, hV, rfl, hfz, hnd⟩ := hW
  have hA : DataW.TrodAll enc Try.prog W 0 (fun _ => true) true Try.f3.params.toList args.toList ds p := hA0
  rw [Try.params3] at hA hval
  obtain ⟨v0, v1, v2, d0, d1, d2, p0, p1, p2, rfl, rfl, rfl, h0, h1, h2⟩ := trodAll_three hA
  obtain ⟨rfl, rfl⟩ := trodVars_none hV
  have k0 := h0
  have k1 := h1
  have k2 := h2
  have lt0 : ∀ x ∈ p0, x.block < W.heap.size := by obtain ⟨m, hm⟩ := k0; exact DataW.trod_lt m _ _ _ hm
  have lt1 : ∀ x ∈ p1, x.block < W.heap.size := by obtain ⟨m, hm⟩ := k1; exact DataW.trod_lt m _ _ _ hm
  have lt2 : ∀ x ∈ p2, x.block < W.heap.size := by obtain ⟨m, hm⟩ := k2; exact DataW.trod_lt m _ _ _ hm
  obtain ⟨cs0, rfl, _⟩ := okWide_struct Try.underlying24 (hval 0 24 v0 rfl rfl)
  obtain ⟨cs1, rfl⟩ : ∃ cs, v1 = .agg cs := by
    have h := hval 1 25 v1 rfl rfl
    unfold Value.okWide at h
    rw [Try.underlying25] at h
    obtain ⟨cs, e, _⟩ := h
    exact ⟨cs, e⟩
  obtain ⟨cs2, rfl⟩ : ∃ cs, v2 = .agg cs := by
    have h := hval 2 32 v2 rfl rfl
    unfold Value.okWide at h
    rw [Try.underlying32] at h
    obtain ⟨cs, e, _⟩ := h
    exact ⟨cs, e⟩
  obtain ⟨m0, hm0⟩ := h0
  obtain ⟨m1, hm1⟩ := h1
  obtain ⟨m2, hm2⟩ := h2
  obtain ⟨A, n, c, ts, o, e0, ht, hn⟩ := read_query hm0
  obtain ⟨r0, r1, r2, r3, r4, e1⟩ := read_ready hm1
  obtain ⟨s0, s1, e2, i0, i1⟩ := read_spans hm2
  obtain rfl : cs0 = #[.slice A n c, .int .i64 o] := Array.toList_inj.1 e0
  obtain rfl : cs1 = #[.bool r0, .bool r1, .bool r2, .bool r3, .bool r4] := Array.toList_inj.1 e1
  obtain rfl : cs2 = #[.int .u64 s0.trace, .int .u64 s0.id, .int .u64 s0.parent, .string s0.service, .string s0.op, .int .i64 s0.start, .int .i64 s0.dur, .int .i64 s0.status, .slice s0.A1 s0.n1 s0.c1, .slice s0.A2 s0.n2 s0.c2, .slice s0.A3 s0.n3 s0.c3, .int .u64 s1.trace, .int .u64 s1.id, .int .u64 s1.parent, .string s1.service, .string s1.op, .int .i64 s1.start, .int .i64 s1.dur, .int .i64 s1.status, .slice s1.A1 s1.n1 s1.c1, .slice s1.A2 s1.n2 s1.c2, .slice s1.A3 s1.n3 s1.c3] := Array.toList_inj.1 e2
  clear hA0 hval0
  refine (missesLaw_any A n c ts o r0 r1 r2 r3 r4 s0 s1 W ht hn i0 i1).mono fun e W' ⟨he, bel⟩ => ?_
  subst he
  exact ⟨_, rfl, _, _, _, [], _, [], hW', trodAll_mk1 (shut_bool Try.underlying4 _), trodAll_mk3 (Below.trod laid_out (by kernel_rfl) (of_decide_eq_true (by kernel_rfl)) k0 bel lt0) (Below.trod laid_out (by kernel_rfl) (of_decide_eq_true (by kernel_rfl)) k1 bel lt1) (Below.trod laid_out (by kernel_rfl) (of_decide_eq_true (by kernel_rfl)) k2 bel lt2), rfl, bel.frame _, fun h => by cases h⟩

theorem planMisses_holds : Rows.PlanMissesSaid :=
  OpenClaim.holds_of_wide 3 Try.f3 rfl rfl rfl rfl rfl rfl rfl ⟨rfl, rfl, rfl, rfl, rfl⟩ rfl rfl rfl rfl rfl (by kernel_rfl) Try.func3 (by kernel_rfl)
    (of_decide_eq_true (by kernel_rfl)) (by unfold Func.isWrapper; first | (rw [if_pos (by decide +kernel)]; kernel_rfl) | (rw [if_neg (by decide +kernel)]; exact ⟨rfl, rfl⟩))
    (fun os started H enc _ => misses_lifted os started H enc)
#print axioms planMisses_holds
end Go.Proofs.Ytmckgcooehdbaaa
