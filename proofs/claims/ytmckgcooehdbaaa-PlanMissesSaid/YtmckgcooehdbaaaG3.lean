/- The walk of PlanMisses: it returns true for every query, all that is ready and every two spans. No condition beyond those that each theorem names. -/
import Derived.Test.YtmckgcooehdbaaaG2
set_option linter.unusedVariables false
set_option linter.unusedSimpArgs false
namespace Go.Proofs.Ytmckgcooehdbaaa
open Go.RowKit Go.Proofs.YtmckgcooehdbaaaW.PrintWords

/-- A span as it is given. -/
structure SpanIn (w : World) (s : Span) : Prop where
  nums : SpanNums s
  caps : SpanCaps s
  rows : ∃ ats es ls, SpanRows w s ats es ls
  small : s.n1 ≤ 9223372036854775807 ∧ s.n2 ≤ 9223372036854775807
theorem SpanIn.below {w w1 : World} {s : Span} (h : SpanIn w s) (hb : Below w.heap.size w w1) : SpanIn w1 s := ⟨h.nums, h.caps, let ⟨a, e, l, hr⟩ := h.rows; ⟨a, e, l, hr.below hb⟩, h.small⟩
/-- What the law knows of a span that fits. -/
structure Fit2 (w : World) (s : Span) : Prop where
  good : Good w s
  start : 0 ≤ s.start
  dur : 0 ≤ s.dur
  texts : ∃ ats, RowAt AttrAt 5 w s.A1 s.n1 ats ∧ Texts s ats
theorem Fit2.below {w w1 : World} {s : Span} (h : Fit2 w s) (hb : Below w.heap.size w w1) : Fit2 w1 s := ⟨h.good.below hb, h.start, h.dur, let ⟨a, hr, ht⟩ := h.texts; ⟨a, hr.below fun _ _ h => h.below hb, ht⟩⟩
theorem Fit2.asked {w : World} {s : Span} {ts : List Term} {o : Int} (h : Fit2 w s) (hm : MayP ts o) : Asked ts s w := fun t ht w' hb => by
  obtain ⟨a, hr, hx⟩ := (h.below hb).texts
  cases hn : isNum t.field.toList
  · exact holds_text t s a w' h.good.nums hn hr hx (by have := (hm.1 t ht).2.2.2; omega)
  · exact holds_num t s w' h.good.nums hn
theorem Fit2.held {w : World} {s : Span} {ts : List Term} (h : Fit2 w s) (hm : MatchP ts s) : Held ts s := ⟨h.good.nums, h.start, h.dur, hm⟩
def TellsFit2 (s : Span) (w0 w : World) (e : Ending) (w' : World) : Prop := ∃ b : Bool, e = .returned (.bool b) ∧ (b = true → Fit2 w0 s) ∧ Below w.heap.size w w'
theorem TellsFit2.mk_ {s : Span} {w0 w w' : World} {e : Ending} {b : Bool} (h : e = .returned (.bool b)) (hb : Below w.heap.size w w') (hs : b = true → Fit2 w0 s) : TellsFit2 s w0 w e w' := ⟨b, h, hs, hb⟩

set_option maxHeartbeats 4000000 in
set_option maxRecDepth 100000 in
theorem fits_any (s : Span) (w : World) (hin : SpanIn w s) :
    Calls Try.prog 9 #[.agg #[.int .u64 s.trace, .int .u64 s.id, .int .u64 s.parent, .string s.service, .string s.op, .int .i64 s.start, .int .i64 s.dur, .int .i64 s.status, .slice s.A1 s.n1 s.c1, .slice s.A2 s.n2 s.c2, .slice s.A3 s.n3 s.c3]] w fun e w' => TellsFit2 s w w e w' := by
  obtain ⟨ats, es, ls, hr⟩ := hin.rows
  have HR := Lib.hid hr
  have HI := Lib.hid hin
  clear hr hin
  have HF : Hid (FitP s ats → Fit2 w s) := fun h => ⟨⟨HI.out.nums, HI.out.caps, HI.out.rows, h.service, h.op⟩, h.start.1, h.dur.1, ats, HR.out.a, by have := h.service; omega, by have := h.op; omega, fun a ha => by have := h.attrs a ha; omega⟩
  go_enter Try.func9, Try.ntmps9
  have HB0 := Lib.hid ((Below.refl w.heap.size w).alloc (Nat.le_refl _) (.cells #[.int .u64 s.trace, .int .u64 s.id, .int .u64 s.parent, .string s.service, .string s.op, .int .i64 s.start, .int .i64 s.dur, .int .i64 s.status, .slice s.A1 s.n1 s.c1, .slice s.A2 s.n2 s.c2, .slice s.A3 s.n3 s.c3] 31))
  have hsb : SBox (w.alloc (.cells #[.int .u64 s.trace, .int .u64 s.id, .int .u64 s.parent, .string s.service, .string s.op, .int .i64 s.start, .int .i64 s.dur, .int .i64 s.status, .slice s.A1 s.n1 s.c1, .slice s.A2 s.n2 s.c2, .slice s.A3 s.n3 s.c3] 31)) w.heap.size s := heap_alloc_new _ _
  have HSB0 := Lib.hid hsb
  clear hsb
  go_upto_region 1 with fail
  generalize w.alloc (.cells #[.int .u64 s.trace, .int .u64 s.id, .int .u64 s.parent, .string s.service, .string s.op, .int .i64 s.start, .int .i64 s.dur, .int .i64 s.status, .slice s.A1 s.n1 s.c1, .slice s.A2 s.n2 s.c2, .slice s.A3 s.n3 s.c3] 31) = W at *
  obtain ⟨s0, s1, s2, s3, s4, s5, s6, s7, s8, s9, s10⟩ := HSB0.out.cells
  go_wp2_with fail
  refine (small16_any s _ (HR.out.below HB0.out) HI.out.caps HI.out.small.1 HI.out.small.2).mono ?_
  rintro e w1 ⟨b, rfl, hb⟩
  have HB1 := Lib.hid (below_then HB0.out HB0.out.size hb)
  have HSB1 := Lib.hid (HSB0.out.below hb)
  clear hb HB0 HSB0 s0 s1 s2 s3 s4 s5 s6 s7 s8 s9 s10
  cases b
  · go_wp2
    go_ret
    exact TellsFit2.mk_ rfl HB1.out (fun h => by cases h)
  · obtain ⟨s0, s1, s2, s3, s4, s5, s6, s7, s8, s9, s10⟩ := HSB1.out.cells
    go_wp2_with fail
    refine (may16_any s _ (HR.out.below HB1.out)).mono ?_
    rintro e w2 ⟨b, rfl, hf, hb⟩
    have HB2 := Lib.hid (below_then HB1.out HB1.out.size hb)
    have HF2 := Lib.hid hf
    clear hb hf s0 s1 s2 s3 s4 s5 s6 s7 s8 s9 s10
    go_wp2
    go_ret
    exact TellsFit2.mk_ rfl HB2.out (fun h => HF.out (HF2.out h))

/-- Two spans in a block. -/
def TwoBox (w : World) (g : Nat) (s0 s1 : Span) : Prop := w.heap[g]? = some (.cells #[.int .u64 s0.trace, .int .u64 s0.id, .int .u64 s0.parent, .string s0.service, .string s0.op, .int .i64 s0.start, .int .i64 s0.dur, .int .i64 s0.status, .slice s0.A1 s0.n1 s0.c1, .slice s0.A2 s0.n2 s0.c2, .slice s0.A3 s0.n3 s0.c3, .int .u64 s1.trace, .int .u64 s1.id, .int .u64 s1.parent, .string s1.service, .string s1.op, .int .i64 s1.start, .int .i64 s1.dur, .int .i64 s1.status, .slice s1.A1 s1.n1 s1.c1, .slice s1.A2 s1.n2 s1.c2, .slice s1.A3 s1.n3 s1.c3] 32 (0, 0))
theorem TwoBox.below {w w1 : World} {g : Nat} {s0 s1 : Span} (h : TwoBox w g s0 s1) (hb : Below w.heap.size w w1) : TwoBox w1 g s0 s1 := (hb.block g (Array.getElem?_eq_some_iff.1 h).1).trans h
theorem TwoBox.at0 {w : World} {g : Nat} {s0 s1 : Span} (h : TwoBox w g s0 s1) : SpanAt w g 0 s0 := by
  unfold TwoBox at h
  constructor <;> simp [World.cell?, h]
theorem TwoBox.at1 {w : World} {g : Nat} {s0 s1 : Span} (h : TwoBox w g s0 s1) : SpanAt w g 11 s1 := by
  unfold TwoBox at h
  constructor <;> simp [World.cell?, h]
/-- The law's three boxes. -/
structure MBoxes (w : World) (g : Nat) (A : Option Addr) (n c : Nat) (o : Int) (r0 r1 r2 r3 r4 : Bool) (s0 s1 : Span) : Prop where
  q : QBox w g A n c o
  r : RBox w (g + 1) r0 r1 r2 r3 r4
  s : TwoBox w (g + 1 + 1) s0 s1
theorem MBoxes.below {w w1 : World} {g : Nat} {A : Option Addr} {n c : Nat} {o : Int} {r0 r1 r2 r3 r4 : Bool} {s0 s1 : Span} (h : MBoxes w g A n c o r0 r1 r2 r3 r4 s0 s1) (hb : Below w.heap.size w w1) : MBoxes w1 g A n c o r0 r1 r2 r3 r4 s0 s1 := ⟨h.q.below hb, h.r.below hb, h.s.below hb⟩
theorem MBoxes.new (w : World) (A : Option Addr) (n c : Nat) (o : Int) (r0 r1 r2 r3 r4 : Bool) (s0 s1 : Span) :
    MBoxes (((w.alloc (.cells #[.slice A n c, .int .i64 o] 24)).alloc (.cells #[.bool r0, .bool r1, .bool r2, .bool r3, .bool r4] 25)).alloc (.cells #[.int .u64 s0.trace, .int .u64 s0.id, .int .u64 s0.parent, .string s0.service, .string s0.op, .int .i64 s0.start, .int .i64 s0.dur, .int .i64 s0.status, .slice s0.A1 s0.n1 s0.c1, .slice s0.A2 s0.n2 s0.c2, .slice s0.A3 s0.n3 s0.c3, .int .u64 s1.trace, .int .u64 s1.id, .int .u64 s1.parent, .string s1.service, .string s1.op, .int .i64 s1.start, .int .i64 s1.dur, .int .i64 s1.status, .slice s1.A1 s1.n1 s1.c1, .slice s1.A2 s1.n2 s1.c2, .slice s1.A3 s1.n3 s1.c3] 32)) w.heap.size A n c o r0 r1 r2 r3 r4 s0 s1 := by
  refine ⟨?_, ?_, ?_⟩
  · unfold QBox
    rw [Below.heap_alloc _ _ _ (by simp; omega), Below.heap_alloc _ _ _ (by simp), heap_alloc_new]
  · unfold RBox
    rw [Below.heap_alloc _ _ _ (by simp)]
    have h := heap_alloc_new (w.alloc (.cells #[.slice A n c, .int .i64 o] 24)) (.cells #[.bool r0, .bool r1, .bool r2, .bool r3, .bool r4] 25)
    simpa using h
  · have h := heap_alloc_new ((w.alloc (.cells #[.slice A n c, .int .i64 o] 24)).alloc (.cells #[.bool r0, .bool r1, .bool r2, .bool r3, .bool r4] 25)) (.cells #[.int .u64 s0.trace, .int .u64 s0.id, .int .u64 s0.parent, .string s0.service, .string s0.op, .int .i64 s0.start, .int .i64 s0.dur, .int .i64 s0.status, .slice s0.A1 s0.n1 s0.c1, .slice s0.A2 s0.n2 s0.c2, .slice s0.A3 s0.n3 s0.c3, .int .u64 s1.trace, .int .u64 s1.id, .int .u64 s1.parent, .string s1.service, .string s1.op, .int .i64 s1.start, .int .i64 s1.dur, .int .i64 s1.status, .slice s1.A1 s1.n1 s1.c1, .slice s1.A2 s1.n2 s1.c2, .slice s1.A3 s1.n3 s1.c3] 32)
    simpa [TwoBox] using h
/-- What the law's guards let in. -/
def LetM (w : World) (ts : List Term) (o : Int) (s0 s1 : Span) : Prop := MayP ts o ∧ Fit2 w s0 ∧ Fit2 w s1
/-- What stands behind the plan. -/
structure PlanFits (ts : List Term) (o : Int) (s0 s1 : Span) (r1 r2 r3 r4 : Bool) (p : Plan) : Prop where
  index : IndexOk p o r1 r2 r3 r4
  lies0 : Held ts s0 → Lies (atB p.index s0) p
  lies1 : Held ts s1 → Lies (atB p.index s1) p
  sorted : Held ts s0 → Held ts s1 → p.sorted = true → lessB (atB p.index s0) (atB p.index s1) = lessB (orderB o s0) (orderB o s1)
theorem IndexOk.range {p : Plan} {o : Int} {r1 r2 r3 r4 : Bool} (h : IndexOk p o r1 r2 r3 r4) : 0 ≤ p.index ∧ p.index ≤ 4 := by
  rcases h.1 with h | h | h | h | h <;> omega
theorem lies_false {k f t : List Int} (h : lessB k f = false ∧ (0 < t.length → lessB k t = true)) : (lessB k f || (decide (0 < t.length) && !lessB k t)) = false := by
  obtain ⟨h1, h2⟩ := h
  rw [h1]
  by_cases ht : 0 < t.length
  · simp [h2 ht]
  · simp [ht]

set_option maxHeartbeats 4000000 in
set_option maxRecDepth 100000 in
theorem missesLaw_any (A : Option Addr) (n c : Nat) (ts : List Term) (o : Int) (r0 r1 r2 r3 r4 : Bool) (s0 s1 : Span) (w : World) (h : TermsAt w A n ts) (hnum : NumsOk ts) (h0 : SpanIn w s0) (h1 : SpanIn w s1) :
    Calls Try.prog 3 #[.agg #[.slice A n c, .int .i64 o], .agg #[.bool r0, .bool r1, .bool r2, .bool r3, .bool r4], .agg #[.int .u64 s0.trace, .int .u64 s0.id, .int .u64 s0.parent, .string s0.service, .string s0.op, .int .i64 s0.start, .int .i64 s0.dur, .int .i64 s0.status, .slice s0.A1 s0.n1 s0.c1, .slice s0.A2 s0.n2 s0.c2, .slice s0.A3 s0.n3 s0.c3, .int .u64 s1.trace, .int .u64 s1.id, .int .u64 s1.parent, .string s1.service, .string s1.op, .int .i64 s1.start, .int .i64 s1.dur, .int .i64 s1.status, .slice s1.A1 s1.n1 s1.c1, .slice s1.A2 s1.n2 s1.c2, .slice s1.A3 s1.n3 s1.c3]] w fun e w' => Woken w e w' := by
  have HT := Lib.hid h
  have HN := Lib.hid hnum
  have HS0 := Lib.hid h0
  have HS1 := Lib.hid h1
  clear h hnum h0 h1
  have HB0 := Lib.hid ((((Below.refl w.heap.size w).alloc (Nat.le_refl _) (.cells #[.slice A n c, .int .i64 o] 24)).alloc (by simp) (.cells #[.bool r0, .bool r1, .bool r2, .bool r3, .bool r4] 25)).alloc (by simp; omega) (.cells #[.int .u64 s0.trace, .int .u64 s0.id, .int .u64 s0.parent, .string s0.service, .string s0.op, .int .i64 s0.start, .int .i64 s0.dur, .int .i64 s0.status, .slice s0.A1 s0.n1 s0.c1, .slice s0.A2 s0.n2 s0.c2, .slice s0.A3 s0.n3 s0.c3, .int .u64 s1.trace, .int .u64 s1.id, .int .u64 s1.parent, .string s1.service, .string s1.op, .int .i64 s1.start, .int .i64 s1.dur, .int .i64 s1.status, .slice s1.A1 s1.n1 s1.c1, .slice s1.A2 s1.n2 s1.c2, .slice s1.A3 s1.n3 s1.c3] 32))
  have HX0 := Lib.hid (MBoxes.new w A n c o r0 r1 r2 r3 r4 s0 s1)
  go_enter Try.func3, Try.ntmps3
  go_wp2_with fail
  refine (awake_any _).mono ?_
  rintro e w1 ⟨rfl, hb⟩
  have HB1 := Lib.hid (below_then HB0.out HB0.out.size hb)
  have HX1 := Lib.hid (HX0.out.below hb)
  clear hb HB0 HX0
  go_upto_region 3 with fail
  go_cut [31] (fun v31 wc => ∃ b : Bool, v31 = .bool b ∧ Aside0 (b = false → LetM wc ts o s0 s1) ∧ Aside0 (Below w1.heap.size w1 wc))
  case first =>
    obtain ⟨q0, q1⟩ := HX1.out.q.cells
    go_wp2_with fail
    refine (smallQ_any A n c ts o _ (HT.out.below HB1.out)).mono ?_
    rintro e w2 ⟨b, rfl, hb⟩
    have HB2 := Lib.hid hb
    clear hb q0 q1
    cases b
    · go_wp2
      go_meet
      exact ⟨true, rfl, ⟨fun h => by cases h⟩, ⟨HB2.out⟩⟩
    · obtain ⟨q0, q1⟩ := (HX1.out.below HB2.out).q.cells
      go_wp2_with fail
      refine (may_any A n c ts o _ (HT.out.below (below_then HB1.out HB1.out.size HB2.out))).mono ?_
      rintro e w3 ⟨b, rfl, hm, hb⟩
      have HM := Lib.hid hm
      have HB3 := Lib.hid (below_then HB2.out HB2.out.size hb)
      clear hm hb q0 q1 HB2
      cases b
      · go_wp2
        go_meet
        exact ⟨true, rfl, ⟨fun h => by cases h⟩, ⟨HB3.out⟩⟩
      · obtain ⟨a0, a1, a2, a3, a4, a5, a6, a7, a8, a9, a10⟩ := (HX1.out.below HB3.out).s.at0
        go_wp2_with fail
        refine (fits_any s0 _ (HS0.out.below (below_then HB1.out HB1.out.size HB3.out))).mono ?_
        rintro e w4 ⟨b, rfl, hf, hb⟩
        have HF0 := Lib.hid hf
        have HB43 := Lib.hid hb
        have HB4 := Lib.hid (below_then HB3.out HB3.out.size hb)
        clear hf hb a0 a1 a2 a3 a4 a5 a6 a7 a8 a9 a10
        cases b
        · go_wp2
          go_meet
          exact ⟨true, rfl, ⟨fun h => by cases h⟩, ⟨HB4.out⟩⟩
        · obtain ⟨a0, a1, a2, a3, a4, a5, a6, a7, a8, a9, a10⟩ := (HX1.out.below HB4.out).s.at1
          go_wp2_with fail
          refine (fits_any s1 _ (HS1.out.below (below_then HB1.out HB1.out.size HB4.out))).mono ?_
          rintro e w5 ⟨b, rfl, hf, hb⟩
          have HF1 := Lib.hid hf
          have HB5 := Lib.hid (below_then HB4.out HB4.out.size hb)
          have HL : Hid (b = true → LetM w5 ts o s0 s1) := fun h => ⟨HM.out (by trivial), ((HF0.out (by trivial)).below HB43.out).below hb, (HF1.out h).below hb⟩
          clear hf hb a0 a1 a2 a3 a4 a5 a6 a7 a8 a9 a10
          go_wp2
          go_meet
          exact ⟨!b, rfl, ⟨fun h => HL.out (by simpa using h)⟩, ⟨HB5.out⟩⟩
  obtain ⟨b, rfl, HL, HBc⟩ := hcut
  have HB2 := Lib.hid (below_then HB1.out HB1.out.size HBc.out)
  have HX2 := Lib.hid (HX1.out.below HBc.out)
  clear HB1 HX1 HBc
  cases b
  case true =>
    go_wp2
    go_ret
    exact ⟨rfl, HB2.out⟩
  have HLT := Lib.hid (HL.out rfl)
  have HOK := Lib.hid (terms_ok HN.out HLT.out.1)
  clear HL
  obtain ⟨q0, q1⟩ := HX2.out.q.cells
  obtain ⟨t0, t1, t2, t3, t4⟩ := HX2.out.r.cells
  go_wp2_with fail
  refine (choose_any A n c ts o r0 r1 r2 r3 r4 _ (HT.out.below HB2.out) HOK.out).mono ?_
  rintro e w3 ⟨sv, sb, ov, ob, h1, h2, h3⟩
  have hpf : PlanFits ts o s0 s1 r1 r2 r3 r4 (planF ts o r1 r2 r3 r4 sv sb ov ob) := ⟨planF_index ts o r1 r2 r3 r4 sv sb ov ob, fun h => plan_in h HLT.out.1 HN.out h1 h2, fun h => plan_in h HLT.out.1 HN.out h1 h2, fun ha hb => plan_sorted ha hb HLT.out.1 h1 h2⟩
  generalize planF ts o r1 r2 r3 r4 sv sb ov ob = p at h3 hpf
  obtain ⟨x1, x2, rfl, hv1, hv2, hb⟩ := h3
  obtain ⟨A1, d1, rfl, _, hr1⟩ := hv1
  obtain ⟨A2, d2, rfl, _, hr2⟩ := hv2
  have HPF := Lib.hid hpf
  have HR1 := Lib.hid hr1
  have HR2 := Lib.hid hr2
  have HB3 := Lib.hid (below_then HB2.out HB2.out.size hb)
  have HX3 := Lib.hid (HX2.out.below hb)
  have HLT3 : Hid (LetM w3 ts o s0 s1) := ⟨HLT.out.1, HLT.out.2.1.below hb, HLT.out.2.2.below hb⟩
  clear h1 h2 hpf hr1 hr2 hb q0 q1 t0 t1 t2 t3 t4 HB2 HX2 HLT
  obtain ⟨pi, pfrom, pto, psrt⟩ := p
  have HP4 : Hid (PBox (w3.alloc (.cells #[.int .i64 pi, .slice A1 pfrom.length d1, .slice A2 pto.length d2, .bool psrt] 38)) w3.heap.size pi (.slice A1 pfrom.length d1) (.slice A2 pto.length d2) psrt) := heap_alloc_new _ _
  have hb4 := (Below.refl w3.heap.size w3).alloc (Nat.le_refl _) (.cells #[.int .i64 pi, .slice A1 pfrom.length d1, .slice A2 pto.length d2, .bool psrt] 38)
  have HB4 := Lib.hid (below_then HB3.out HB3.out.size hb4)
  have HX4 := Lib.hid (HX3.out.below hb4)
  have HLT4 : Hid (LetM (w3.alloc (.cells #[.int .i64 pi, .slice A1 pfrom.length d1, .slice A2 pto.length d2, .bool psrt] 38)) ts o s0 s1) := ⟨HLT3.out.1, HLT3.out.2.1.below hb4, HLT3.out.2.2.below hb4⟩
  have HR14 := Lib.hid (HR1.out.below hb4)
  have HR24 := Lib.hid (HR2.out.below hb4)
  clear hb4 HB3 HX3 HLT3 HR1 HR2
  go_upto_region 6 with fail
  generalize (w3.alloc (.cells #[.int .i64 pi, .slice A1 pfrom.length d1, .slice A2 pto.length d2, .bool psrt] 38)) = W at *
  go_cut [54] (fun v54 wc => v54 = .bool false ∧ W = wc)
  case first =>
    obtain ⟨p0, _, _, _⟩ := HP4.out.cells
    obtain ⟨t0, t1, t2, t3, t4⟩ := HX4.out.r.cells
    have hidx : pi = 0 ∨ pi = 1 ∧ r1 = true ∨ pi = 2 ∧ r2 = true ∨ pi = 3 ∧ r3 = true ∨ pi = 4 ∧ r4 = true := HPF.out.index.1
    rcases hidx with rfl | ⟨rfl, rfl⟩ | ⟨rfl, rfl⟩ | ⟨rfl, rfl⟩ | ⟨rfl, rfl⟩
    all_goals (go_wp2; go_meet; exact ⟨rfl, rfl⟩)
  obtain ⟨rfl, rfl⟩ := hcut
  go_wp2
  go_loopw [8] (fun v8 wr => ∃ i : Nat, v8 = .int .i64 i ∧ i ≤ 2 ∧ Aside0 (Below W.heap.size W wr)) (fun v8 _ => 2 - (intOf v8).toNat)
  case atStart => exact ⟨0, rfl, by omega, ⟨Below.refl _ _⟩⟩
  case round =>
    obtain ⟨i, rfl, hi, HB⟩ := hrel
    have HXr := Lib.hid (HX4.out.below HB.out)
    have HPr := Lib.hid (HP4.out.below HB.out)
    have HLr : Hid (LetM wr ts o s0 s1) := ⟨HLT4.out.1, HLT4.out.2.1.below HB.out, HLT4.out.2.2.below HB.out⟩
    have HBr := Lib.hid (below_then HB4.out HB4.out.size HB.out)
    by_cases hlt : i < 2
    · have HS : Hid (∃ f s, ((i = 0 ∧ f = 0) ∨ (i = 1 ∧ f = 11)) ∧ SpanAt wr (w.heap.size + 1 + 1) f s ∧ Fit2 wr s ∧ (Held ts s → Lies (atB pi s) ⟨pi, pfrom, pto, psrt⟩)) := by
        rcases (show i = 0 ∨ i = 1 by omega) with rfl | rfl
        · exact ⟨0, s0, .inl ⟨rfl, rfl⟩, HXr.out.s.at0, HLr.out.2.1, HPF.out.lies0⟩
        · exact ⟨11, s1, .inr ⟨rfl, rfl⟩, HXr.out.s.at1, HLr.out.2.2, HPF.out.lies1⟩
      obtain ⟨f, s, hfi, hsp, hft, hly⟩ := HS.out
      have HFI := Lib.hid hfi
      have HSP := Lib.hid hsp
      have HFT := Lib.hid hft
      have HLY := Lib.hid hly
      clear hfi hsp hft hly HS
      go_upto_region 11 with fail
      refine region_K (gp := w3.heap.size) (g := w.heap.size + 1 + 1) (i := i) (f := f) (x0 := pi) (s := s) (by kernel_rfl) (by simp) ⟨rfl, rfl, rfl, HPr.out.cells.1, HFI.out, HSP.out, HFT.out.good, HPF.out.index.range⟩ ?_
      intro y w5 hb5 hk
      simp only [fullOf, Act.put, List.setIfInBounds_toArray, List.set_cons_zero, List.set_cons_succ]
      obtain ⟨A3, k3, ek, _, rk⟩ := hk
      rw [ek]
      have HRK := Lib.hid rk
      have HB5 := Lib.hid hb5
      clear rk hb5 ek
      go_upto_region 12 with fail
      have HB45 := Lib.hid (below_then HB.out HB.out.size HB5.out)
      refine region_L (gq := w.heap.size) (gp := w3.heap.size) (g := w.heap.size + 1 + 1) (i := i) (f := f) (n := n) (c := c) (A := A) (o := o) (s := s) (A1 := A3) (A2 := A1) (A3 := A2) (k1 := k3) (k2 := d1) (k3 := d2) (KK := atB pi s) (FF := pfrom) (TT := pto) (dl := decide (0 < pto.length)) (ts := ts) (by kernel_rfl) (by simp) ⟨rfl, rfl, rfl, rfl, rfl, (HXr.out.below HB5.out).q.cells.1, (HXr.out.below HB5.out).q.cells.2, (HPr.out.below HB5.out).cells.2.1, (HPr.out.below HB5.out).cells.2.2.1, HFI.out, HSP.out.below HB5.out, HT.out.below (below_then HBr.out HBr.out.size HB5.out), (HFT.out.asked HLr.out.1).below HB5.out, HRK.out, HR14.out.below HB45.out, HR24.out.below HB45.out, rfl, fun hm => lies_false (HLY.out (HFT.out.held hm))⟩ ?_
      intro z w6 hb6 hz
      simp only [fullOf, Act.put, List.setIfInBounds_toArray, List.set_cons_zero, List.set_cons_succ]
      rw [hz]
      have HB6 := Lib.hid (below_then HB45.out HB45.out.size hb6)
      clear hb6 hz
      go_wp2
      go_roundw
      case rel => exact ⟨i + 1, by go_num, by omega, ⟨HB6.out⟩⟩
      case measure => simp [intOf]; omega
    · obtain rfl : i = 2 := by omega
      clear hlt hi
      obtain ⟨p0, p1, p2, p3⟩ := HPr.out.cells
      clear p0 p1 p2
      cases psrt
      · go_wp2
        go_ret
        exact ⟨rfl, HBr.out⟩
      · obtain ⟨q0, q1⟩ := HXr.out.q.cells
        obtain ⟨a0, a1, a2, a3, a4, a5, a6, a7, a8, a9, a10⟩ := HXr.out.s.at0
        go_wp2_with fail
        refine (match_any A n c ts o s0 _ (HT.out.below HBr.out) (HLr.out.2.1.asked HLr.out.1)).mono ?_
        rintro e w7 ⟨b, rfl, hm, hb⟩
        have HM0 := Lib.hid hm
        have HB7 := Lib.hid hb
        have HB7w := Lib.hid (below_then HBr.out HBr.out.size hb)
        clear hm hb q0 q1 p3 a0 a1 a2 a3 a4 a5 a6 a7 a8 a9 a10
        cases b
        · go_wp2
          go_ret
          exact ⟨rfl, HB7w.out⟩
        · obtain ⟨q0, q1⟩ := (HXr.out.below HB7.out).q.cells
          obtain ⟨a0, a1, a2, a3, a4, a5, a6, a7, a8, a9, a10⟩ := (HXr.out.below HB7.out).s.at1
          go_wp2_with fail
          refine (match_any A n c ts o s1 _ (HT.out.below HB7w.out) ((HLr.out.2.2.asked HLr.out.1).below HB7.out)).mono ?_
          rintro e w8 ⟨b, rfl, hm, hb⟩
          have HM1 := Lib.hid hm
          have HB8 := Lib.hid (below_then HB7.out HB7.out.size hb)
          have HB8w := Lib.hid (below_then HB7w.out HB7w.out.size hb)
          clear hm hb q0 q1 a0 a1 a2 a3 a4 a5 a6 a7 a8 a9 a10
          cases b
          · go_wp2
            go_ret
            exact ⟨rfl, HB8w.out⟩
          · have HSO := Lib.hid (HPF.out.sorted (HLr.out.2.1.held (HM0.out (by trivial))) (HLr.out.2.2.held (HM1.out (by trivial))) rfl)
            go_upto_region 16 with fail
            refine region_O (gq := w.heap.size) (gp := w3.heap.size) (g := w.heap.size + 1 + 1) (x0 := pi) (o := o) (s0 := s0) (s1 := s1) (by kernel_rfl) (by simp) ⟨rfl, rfl, rfl, (HPr.out.below HB8.out).cells.1, (HXr.out.below HB8.out).q.cells.2, (HXr.out.below HB8.out).s.at0, (HXr.out.below HB8.out).s.at1, HLr.out.2.1.good.below HB8.out, HLr.out.2.2.good.below HB8.out, HPF.out.index.range, HSO.out⟩ ?_
            intro z w9 hb9 hz
            simp only [fullOf, Act.put, List.setIfInBounds_toArray, List.set_cons_zero, List.set_cons_succ]
            rw [hz]
            have HB9 := Lib.hid (below_then HB8w.out HB8w.out.size hb9)
            clear hb9 hz
            go_wp2
            go_ret
            exact ⟨rfl, HB9.out⟩
end Go.Proofs.Ytmckgcooehdbaaa
