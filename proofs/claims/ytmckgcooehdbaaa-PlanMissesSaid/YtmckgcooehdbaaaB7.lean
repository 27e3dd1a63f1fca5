/- The contract of plan.Choose: the plan is what planF says, for every query whose texts are short. No condition beyond those that each theorem names. -/
import Derived.Test.YtmckgcooehdbaaaB6
set_option linter.unusedVariables false
set_option linter.unusedSimpArgs false
namespace Go.Proofs.Ytmckgcooehdbaaa
open Go.RowKit Go.Proofs.YtmckgcooehdbaaaW.PrintWords

/-- What is known of a query's terms: a text is short, a number is one of 64 bits. -/
def TermsOk (ts : List Term) : Prop := ∀ t ∈ ts, t.text.size ≤ 200 ∧ -9223372036854775808 ≤ t.num ∧ t.num ≤ 9223372036854775807
def InB (b : Int × Int) : Prop := 0 ≤ b.1 ∧ b.1 ≤ 9223372036854775807 ∧ -9223372036854775808 ≤ b.2 ∧ b.2 ≤ 9223372036854775807
theorem boundsF_in (f : List UInt8) (ts : List Term) (h : TermsOk ts) : InB (boundsF f ts) := by
  have key : ∀ (l : List Term) (b : Int × Int), (∀ t ∈ l, -9223372036854775808 ≤ t.num ∧ t.num ≤ 9223372036854775807) → InB b → InB (l.foldl (boundStep f) b) := by
    intro l
    induction l with
    | nil => intro b _ hb; exact hb
    | cons t l ih =>
      intro b hl hb
      refine ih _ (fun u hu => hl u (List.mem_cons_of_mem _ hu)) ?_
      have ht := hl t List.mem_cons_self
      obtain ⟨h1, h2, h3, h4⟩ := hb
      have w1 : -9223372036854775808 ≤ wrap64 (t.num - 1) ∧ wrap64 (t.num - 1) ≤ 9223372036854775807 := by unfold wrap64; omega
      have w2 : -9223372036854775808 ≤ wrap64 (t.num + 1) ∧ wrap64 (t.num + 1) ≤ 9223372036854775807 := by unfold wrap64; omega
      unfold boundStep narrowed InB
      split
      · repeat' split
        all_goals (refine ⟨?_, ?_, ?_, ?_⟩ <;> (try dsimp only) <;> omega)
      · exact ⟨h1, h2, h3, h4⟩
  exact key ts _ (fun t ht => (h t ht).2) ⟨by decide, by decide, by decide, by decide⟩

structure Plan where
  index : Int
  from_ : List Int
  to_ : List Int
  sorted : Bool
def withinF (index : Int) (head : List Int) (b : Int × Int) (sorted : Bool) : Plan := ⟨index, head ++ keyB b.1, toB head b.2, sorted⟩
def beginF (index : Int) (head : List Int) : Plan := ⟨index, head, behindB head, false⟩
def startL : List UInt8 := [115, 116, 97, 114, 116]
def durL : List UInt8 := [100, 117, 114]
def traceL : List UInt8 := [116, 114, 97, 99, 101]
def svcL : List UInt8 := [115, 101, 114, 118, 105, 99, 101]
def opL : List UInt8 := [111, 112]
/-- A query's plan, of what it asks of the texts. -/
def planF (ts : List Term) (o : Int) (r1 r2 r3 r4 : Bool) (sv : ByteArray) (sb : Bool) (ov : ByteArray) (ob : Bool) : Plan :=
  if (o == 1 && (sb && ob && r2)) = true then withinF 2 (bytesB sv ++ [0] ++ (bytesB ov ++ [0])) (boundsF startL ts) true
  else if (o == 1 && (sb && r1)) = true then withinF 1 (bytesB sv ++ [0]) (boundsF startL ts) true
  else if (o == 1 && r4) = true then withinF 4 [] (boundsF startL ts) true
  else if (o == 2 && r3) = true then withinF 3 [] (boundsF durL ts) true
  else if (o != 0 && (sb && ob && r2)) = true then beginF 2 (bytesB sv ++ [0] ++ (bytesB ov ++ [0]))
  else if (o != 0 && (sb && r1)) = true then beginF 1 (bytesB sv ++ [0])
  else withinF 0 [] (boundsF traceL ts) (o == 0)

def TellsPlanP (p : Plan) (w : World) (e : Ending) (w' : World) : Prop := TellsPlan p.index p.from_ p.to_ p.sorted w e w'
def TellsChoose (ts : List Term) (o : Int) (r1 r2 r3 r4 : Bool) (w : World) (e : Ending) (w' : World) : Prop :=
  ∃ sv sb ov ob, Wanted svcL ts sv sb ∧ Wanted opL ts ov ob ∧ TellsPlanP (planF ts o r1 r2 r3 r4 sv sb ov ob) w e w'

/-- The three blocks of Choose's own. -/
structure ChooseBoxes (w : World) (g : Nat) (A : Option Addr) (n c : Nat) (o : Int) (r0 r1 r2 r3 r4 : Bool) : Prop where
  q : w.heap[g]? = some (.cells #[.slice A n c, .int .i64 o] 24 (0, 0))
  r : w.heap[g + 1]? = some (.cells #[.bool r0, .bool r1, .bool r2, .bool r3, .bool r4] 25 (0, 0))
  p : PlanBox w (g + 1 + 1)
theorem ChooseBoxes.below {w w1 : World} {g : Nat} {A : Option Addr} {n c : Nat} {o : Int} {r0 r1 r2 r3 r4 : Bool} (h : ChooseBoxes w g A n c o r0 r1 r2 r3 r4) (hb : Below w.heap.size w w1) : ChooseBoxes w1 g A n c o r0 r1 r2 r3 r4 :=
  ⟨(hb.block g (Array.getElem?_eq_some_iff.1 h.q).1).trans h.q, (hb.block (g + 1) (Array.getElem?_eq_some_iff.1 h.r).1).trans h.r, h.p.below hb⟩
theorem ChooseBoxes.cells {w : World} {g : Nat} {A : Option Addr} {n c : Nat} {o : Int} {r0 r1 r2 r3 r4 : Bool} (h : ChooseBoxes w g A n c o r0 r1 r2 r3 r4) :
    w.cell? ⟨g, 0, none⟩ = some (.slice A n c) ∧ w.cell? ⟨g, 1, none⟩ = some (.int .i64 o) ∧ w.cell? ⟨g + 1, 1, none⟩ = some (.bool r1) ∧ w.cell? ⟨g + 1, 2, none⟩ = some (.bool r2) ∧ w.cell? ⟨g + 1, 3, none⟩ = some (.bool r3) ∧ w.cell? ⟨g + 1, 4, none⟩ = some (.bool r4) := by
  simp [World.cell?, h.q, h.r]

theorem ReadV.shape' {w : World} {v : Value} {xs : List Int} (h : ReadV w v xs) : ∃ A k c, v = .slice A k c := by
  obtain ⟨A, c, e, _⟩ := h
  exact ⟨A, _, c, e⟩
/-- A plan's block, when it has been written. -/
theorem plan_cells {w : World} {g : Nat} (h : PlanBox w g) (a b c d : Value) : let W := (((w.setCell ⟨g, 0, none⟩ a).setCell ⟨g, 1, none⟩ b).setCell ⟨g, 2, none⟩ c).setCell ⟨g, 3, none⟩ d
    W.cell? ⟨g, 0, none⟩ = some a ∧ W.cell? ⟨g, 1, none⟩ = some b ∧ W.cell? ⟨g, 2, none⟩ = some c ∧ W.cell? ⟨g, 3, none⟩ = some d := by
  obtain ⟨⟨p0, p1, p2, p3⟩, _⟩ := h.cells
  have o : ∀ (W : World) (i j : Nat) (u : Value), i ≠ j → (W.setCell ⟨g, i, none⟩ u).cell? ⟨g, j, none⟩ = W.cell? ⟨g, j, none⟩ := fun W i j u hij => World.cell?_setCell_other _ _ _ _ (by simp [hij])
  refine ⟨?_, ?_, ?_, ?_⟩
  · rw [o _ 3 0 _ (by decide), o _ 2 0 _ (by decide), o _ 1 0 _ (by decide)]
    exact World.cell?_setCell_same _ _ _ p0
  · rw [o _ 3 1 _ (by decide), o _ 2 1 _ (by decide)]
    refine World.cell?_setCell_same _ _ _ (u := .slice none 0 0) ?_
    rw [o _ 0 1 _ (by decide)]
    exact p1
  · rw [o _ 3 2 _ (by decide)]
    refine World.cell?_setCell_same _ _ _ (u := .slice none 0 0) ?_
    rw [o _ 1 2 _ (by decide), o _ 0 2 _ (by decide)]
    exact p2
  · refine World.cell?_setCell_same _ _ _ (u := .bool false) ?_
    rw [o _ 2 3 _ (by decide), o _ 1 3 _ (by decide), o _ 0 3 _ (by decide)]
    exact p3
theorem choose_results (tm : Array Value) (g : Nat) (W : World) (a b c d : Value) (h4 : tm[4]? = some (.pointer (some ⟨g, 0, none⟩))) (z0 : W.cell? ⟨g, 0, none⟩ = some a) (z1 : W.cell? ⟨g, 1, none⟩ = some b) (z2 : W.cell? ⟨g, 2, none⟩ = some c) (z3 : W.cell? ⟨g, 3, none⟩ = some d) :
    (results Try.f10 tm).run Try.prog W = .ok (.agg #[a, b, c, d]) W := by
  simp [results, Try.results10, go_sem, h4, z0, z1, z2, z3]
/-- A plan that is stored into its block. -/
theorem plan_result {w w5 : World} {g : Nat} {index : Int} {fr to' : List Int} {s : Bool} {A1 A2 : Option Addr} {k1 d1 k2 d2 : Nat} (hp : PlanBox w5 g) (hge : w.heap.size ≤ g) (hB : Below w.heap.size w w5)
    (h1 : ReadV w5 (.slice A1 k1 d1) fr) (h2 : ReadV w5 (.slice A2 k2 d2) to') :
    TellsPlan index fr to' s w (.returned (.agg #[.int .i64 index, .slice A1 k1 d1, .slice A2 k2 d2, .bool s]))
      ((((w5.setCell ⟨g, 0, none⟩ (.int .i64 index)).setCell ⟨g, 1, none⟩ (.slice A1 k1 d1)).setCell ⟨g, 2, none⟩ (.slice A2 k2 d2)).setCell ⟨g, 3, none⟩ (.bool s)) :=
  ⟨_, _, rfl, h1.plan4 hp _ _ _ _ _ _ _ _, h2.plan4 hp _ _ _ _ _ _ _ _, (((hB.setCell hge _).setCell hge _).setCell hge _).setCell hge _⟩

set_option maxHeartbeats 4000000 in
set_option maxRecDepth 100000 in
theorem choose_any (A : Option Addr) (n c : Nat) (ts : List Term) (o : Int) (r0 r1 r2 r3 r4 : Bool) (w : World) (h : TermsAt w A n ts) (hok : TermsOk ts) :
    Calls Try.prog 10 #[.agg #[.slice A n c, .int .i64 o], .agg #[.bool r0, .bool r1, .bool r2, .bool r3, .bool r4]] w fun e w' => TellsChoose ts o r1 r2 r3 r4 w e w' := by
  have HT := Lib.hid h
  clear h
  have HB0 := Lib.hid ((((Below.refl w.heap.size w).alloc (Nat.le_refl _) (.cells #[.slice A n c, .int .i64 o] 24)).alloc (by simp) (.cells #[.bool r0, .bool r1, .bool r2, .bool r3, .bool r4] 25)).alloc (by simp; omega) (.cells #[.int .i64 0, .slice none 0 0, .slice none 0 0, .bool false] 38))
  have HX0 : Hid (ChooseBoxes (((w.alloc (.cells #[.slice A n c, .int .i64 o] 24)).alloc (.cells #[.bool r0, .bool r1, .bool r2, .bool r3, .bool r4] 25)).alloc (.cells #[.int .i64 0, .slice none 0 0, .slice none 0 0, .bool false] 38)) w.heap.size A n c o r0 r1 r2 r3 r4) := by
    refine ⟨?_, ?_, ?_⟩
    · rw [Below.heap_alloc _ _ _ (by simp; omega), Below.heap_alloc _ _ _ (by simp), heap_alloc_new]
    · rw [Below.heap_alloc _ _ _ (by simp)]
      have h := heap_alloc_new (w.alloc (.cells #[.slice A n c, .int .i64 o] 24)) (.cells #[.bool r0, .bool r1, .bool r2, .bool r3, .bool r4] 25)
      simpa using h
    · have h := heap_alloc_new ((w.alloc (.cells #[.slice A n c, .int .i64 o] 24)).alloc (.cells #[.bool r0, .bool r1, .bool r2, .bool r3, .bool r4] 25)) (.cells #[.int .i64 0, .slice none 0 0, .slice none 0 0, .bool false] 38)
      simpa [PlanBox] using h
  have es : (⟨#[115, 101, 114, 118, 105, 99, 101]⟩ : ByteArray).toList = svcL := by simp [ByteArray.toList_eq, svcL]
  have eo : (⟨#[111, 112]⟩ : ByteArray).toList = opL := by simp [ByteArray.toList_eq, opL]
  have est : (⟨#[115, 116, 97, 114, 116]⟩ : ByteArray).toList = startL := by simp [ByteArray.toList_eq, startL]
  have ed : (⟨#[100, 117, 114]⟩ : ByteArray).toList = durL := by simp [ByteArray.toList_eq, durL]
  have et : (⟨#[116, 114, 97, 99, 101]⟩ : ByteArray).toList = traceL := by simp [ByteArray.toList_eq, traceL]
  have ES := Lib.hid es
  have EO := Lib.hid eo
  have EST := Lib.hid est
  have ED := Lib.hid ed
  have ET := Lib.hid et
  clear es eo est ed et
  have HOK := Lib.hid hok
  clear hok
  go_enter Try.func10, Try.ntmps10
  go_wp2_with fail
  refine (wants_any A n c ts o _ _ (HT.out.below HB0.out)).mono ?_
  rintro e w1 ⟨sv, sb, rfl, hs, hb⟩
  have HS : Hid (Wanted svcL ts sv sb) := by rw [← ES.out]; exact hs
  have HB1 := Lib.hid (below_then HB0.out HB0.out.size hb)
  have HX1 := Lib.hid (HX0.out.below hb)
  clear hs hb HB0 HX0
  obtain ⟨q0, q1, r1c, r2c, r3c, r4c⟩ := HX1.out.cells
  go_wp2_with fail
  refine (wants_any A n c ts o _ _ (HT.out.below HB1.out)).mono ?_
  rintro e w2 ⟨ov, ob, rfl, hs, hb⟩
  have HO : Hid (Wanted opL ts ov ob) := by rw [← EO.out]; exact hs
  have HB2 := Lib.hid (below_then HB1.out HB1.out.size hb)
  have HX2 := Lib.hid (HX1.out.below hb)
  clear hs hb HB1 HX1 q0 q1 r1c r2c r3c r4c
  obtain ⟨q0, q1, r1c, r2c, r3c, r4c⟩ := HX2.out.cells
  go_wp2_with fail
  refine (bounds_any A n c ts o _ _ (HT.out.below HB2.out)).mono ?_
  rintro e w3 ⟨he, hb⟩
  rw [EST.out] at he
  have I3 := Lib.hid (boundsF_in startL ts HOK.out)
  obtain ⟨st, ht⟩ : ∃ st, st = boundsF startL ts := ⟨_, rfl⟩
  rw [← ht] at he
  subst he
  have HST := Lib.hid ht
  have HB3 := Lib.hid (below_then HB2.out HB2.out.size hb)
  have HX3 := Lib.hid (HX2.out.below hb)
  clear ht hb HB2 HX2 q0 q1 r1c r2c r3c r4c
  obtain ⟨q0, q1, r1c, r2c, r3c, r4c⟩ := HX3.out.cells
  go_wp2_with fail
  refine (bounds_any A n c ts o _ _ (HT.out.below HB3.out)).mono ?_
  rintro e w4 ⟨he, hb⟩
  rw [ED.out] at he
  have I4 := Lib.hid (boundsF_in durL ts HOK.out)
  obtain ⟨du, ht⟩ : ∃ du, du = boundsF durL ts := ⟨_, rfl⟩
  rw [← ht] at he
  subst he
  have HDU := Lib.hid ht
  have HB4 := Lib.hid (below_then HB3.out HB3.out.size hb)
  have HX4 := Lib.hid (HX3.out.below hb)
  clear ht hb HB3 HX3 q0 q1 r1c r2c r3c r4c
  obtain ⟨q0, q1, r1c, r2c, r3c, r4c⟩ := HX4.out.cells
  go_upto_region 5 with fail
  go_cut [13, 14, 15] (fun v13 v14 v15 wc => v13 = .bool (o == 1) ∧ v14 = .bool (sb && ob && r2) ∧ v15 = .bool (sb && r1) ∧ Drawn0 w4 wc)
  case first =>
    cases sb
    · go_quiet (fail)
      go_wp2
      go_meet
      exact ⟨rfl, rfl, rfl, ⟨⟨_, rfl⟩⟩⟩
    · cases ob
      · go_quiet (fail)
        go_wp2
        go_meet
        exact ⟨rfl, rfl, rfl, ⟨⟨_, rfl⟩⟩⟩
      · go_quiet (fail)
        go_wp2
        go_meet
        exact ⟨rfl, rfl, rfl, ⟨⟨_, rfl⟩⟩⟩
  obtain ⟨rfl, rfl, rfl, ⟨m, rfl⟩⟩ := hcut
  have HSZ : Hid (sb = true → sv.size ≤ 200) := fun h => by
    rcases HS.out with ⟨h0, _⟩ | ⟨_, t, ht, _, rfl⟩
    · rw [h] at h0; cases h0
    · exact (HOK.out t ht).1
  have HOZ : Hid (ob = true → ov.size ≤ 200) := fun h => by
    rcases HO.out with ⟨h0, _⟩ | ⟨_, t, ht, _, rfl⟩
    · rw [h] at h0; cases h0
    · exact (HOK.out t ht).1
  have HSO : Hid (∀ B, (sb && ob && r2) = B → B = true → sv.size ≤ 200 ∧ ov.size ≤ 200) := fun B hB hb => by
    rw [hb] at hB
    simp only [Bool.and_eq_true] at hB
    exact ⟨HSZ.out hB.1.1, HOZ.out hB.1.2⟩
  have HSV : Hid (∀ O, (sb && r1) = O → O = true → sv.size ≤ 200) := fun O hO ho => by
    rw [ho] at hO
    simp only [Bool.and_eq_true] at hO
    exact HSZ.out hO.1
  have HBm := Lib.hid (pw_below_drewN HB4.out m)
  have HXm := Lib.hid (HX4.out.below ((Drawn0.mk ⟨m, rfl⟩ : Drawn0 w4 (w4.drewN m)).below))
  generalize hT : (o == 1) = T
  generalize hB : (sb && ob && r2) = B
  generalize hO : (sb && r1) = O
  have HTT := Lib.hid hT
  have HBB := Lib.hid hB
  have HOO := Lib.hid hO
  clear hT hB hO
  go_upto_region 6 with fail
  go_cut [54] (fun v wc => v = .bool (T && B) ∧ w4.drewN m = wc)
  case first =>
    cases T
    all_goals go_wp2
    all_goals (go_meet; exact ⟨by first | rfl | simp [*], rfl⟩)
  obtain ⟨rfl, rfl⟩ := hcut
  generalize hX1 : (T && B) = X1
  have HX1 := Lib.hid hX1
  clear hX1
  cases X1
  case true =>
    have hs2 : sv.size ≤ 200 ∧ ov.size ≤ 200 := HSO.out B HBB.out (by have := HX1.out; simp_all)
    go_wp2_with fail
    refine (operation_any sv ov _ (by have := hs2.1; omega) (by have := hs2.2; omega)).mono ?_
    rintro e w5 ⟨v5, hd, rfl, ho, hh, hb⟩
    obtain ⟨g5, c5, rfl, _, _, hc5, hr5⟩ := ho.reads
    have HB5 := Lib.hid (below_then HBm.out HBm.out.size hb)
    have HY5 := Lib.hid (HXm.out.below hb)
    have HR5 := Lib.hid hr5
    have HH := Lib.hid hh
    have HC5 := Lib.hid hc5
    clear ho hh hb hc5 hr5
    have HLN : Hid (hd.length ≤ 10000) := (by unfold Hid; rw [HH.out]; have := bytesB_length sv; have := bytesB_length ov; have := hs2.1; have := hs2.2; simp; omega)
    have HBY : Hid (ByteL hd) := (by unfold Hid; rw [HH.out]; exact ((ByteL.text sv).append (fun x hx => by simp only [List.mem_cons, List.mem_nil_iff, or_false] at hx; omega)).append ((ByteL.text ov).append (fun x hx => by simp only [List.mem_cons, List.mem_nil_iff, or_false] at hx; omega)))
    go_wp2_with fail
    obtain ⟨i1, i2, i3, i4⟩ := (show InB st by rw [HST.out]; exact I3.out)
    refine (within_any 2 _ _ c5 hd st.1 st.2 true (w5) HR5.out HLN.out HC5.out HBY.out i1 i2 i3 i4).mono ?_
    clear i1 i2 i3 i4
    rintro e w9 ⟨x1, x2, rfl, hv1, hv2, hb⟩
    obtain ⟨A1, k1, d1, rfl⟩ := hv1.shape'
    obtain ⟨A2, k2, d2, rfl⟩ := hv2.shape'
    have HP9 := Lib.hid (HY5.out.p.below hb)
    have HF := Lib.hid (plan_result (g := w.heap.size + 1 + 1) (index := 2) (s := true) HP9.out (by omega) (below_then HB5.out HB5.out.size hb) hv1 hv2)
    obtain ⟨⟨p0, p1, p2, p3⟩, f0, f1, f2, f3⟩ := HP9.out.cells
    clear hv1 hv2 hb q0 q1 r1c r2c r3c r4c
    simp only []
    repeat (first | go_values | go_skip | go_guarded | go_step | go_upon)
    obtain ⟨z0, z1, z2, z3⟩ := plan_cells HP9.out (.int .i64 2) (.slice A1 k1 d1) (.slice A2 k2 d2) (.bool true)
    try simp only [Exit.inBlock, Exit.then]
    refine bodyPost_ret (choose_results _ (w.heap.size + 1 + 1) _ _ _ _ _ rfl z0 z1 z2 z3) rfl ?_
    exact ⟨sv, sb, ov, ob, HS.out, HO.out, by rw [planF, HTT.out, HBB.out, HOO.out, if_pos HX1.out, ← HST.out, ← HH.out]; exact HF.out⟩
  go_upto_region 8 with fail
  go_cut [65] (fun v wc => v = .bool (T && O) ∧ w4.drewN m = wc)
  case first =>
    cases T
    all_goals go_wp2
    all_goals (go_meet; exact ⟨by first | rfl | simp [*], rfl⟩)
  obtain ⟨rfl, rfl⟩ := hcut
  generalize hX2 : (T && O) = X2
  have HX2 := Lib.hid hX2
  clear hX2
  cases X2
  case true =>
    have hs1 : sv.size ≤ 200 := HSV.out O HOO.out (by have := HX2.out; simp_all)
    go_wp2_with fail
    refine (service_any sv _ (by have := hs1; omega)).mono ?_
    rintro e w5 ⟨v5, hd, rfl, ho, hh, hb⟩
    obtain ⟨g5, c5, rfl, _, _, hc5, hr5⟩ := ho.reads
    have HB5 := Lib.hid (below_then HBm.out HBm.out.size hb)
    have HY5 := Lib.hid (HXm.out.below hb)
    have HR5 := Lib.hid hr5
    have HH := Lib.hid hh
    have HC5 := Lib.hid hc5
    clear ho hh hb hc5 hr5
    have HLN : Hid (hd.length ≤ 10000) := (by unfold Hid; rw [HH.out]; have := bytesB_length sv; have := hs1; simp; omega)
    have HBY : Hid (ByteL hd) := (by unfold Hid; rw [HH.out]; exact (ByteL.text sv).append (fun x hx => by simp only [List.mem_cons, List.mem_nil_iff, or_false] at hx; omega))
    go_wp2_with fail
    obtain ⟨i1, i2, i3, i4⟩ := (show InB st by rw [HST.out]; exact I3.out)
    refine (within_any 1 _ _ c5 hd st.1 st.2 true (w5) HR5.out HLN.out HC5.out HBY.out i1 i2 i3 i4).mono ?_
    clear i1 i2 i3 i4
    rintro e w9 ⟨x1, x2, rfl, hv1, hv2, hb⟩
    obtain ⟨A1, k1, d1, rfl⟩ := hv1.shape'
    obtain ⟨A2, k2, d2, rfl⟩ := hv2.shape'
    have HP9 := Lib.hid (HY5.out.p.below hb)
    have HF := Lib.hid (plan_result (g := w.heap.size + 1 + 1) (index := 1) (s := true) HP9.out (by omega) (below_then HB5.out HB5.out.size hb) hv1 hv2)
    obtain ⟨⟨p0, p1, p2, p3⟩, f0, f1, f2, f3⟩ := HP9.out.cells
    clear hv1 hv2 hb q0 q1 r1c r2c r3c r4c
    simp only []
    repeat (first | go_values | go_skip | go_guarded | go_step | go_upon)
    obtain ⟨z0, z1, z2, z3⟩ := plan_cells HP9.out (.int .i64 1) (.slice A1 k1 d1) (.slice A2 k2 d2) (.bool true)
    try simp only [Exit.inBlock, Exit.then]
    refine bodyPost_ret (choose_results _ (w.heap.size + 1 + 1) _ _ _ _ _ rfl z0 z1 z2 z3) rfl ?_
    exact ⟨sv, sb, ov, ob, HS.out, HO.out, by rw [planF, HTT.out, HBB.out, HOO.out, if_neg (by rw [HX1.out]; decide), if_pos HX2.out, ← HST.out, ← HH.out]; exact HF.out⟩
  go_upto_region 10 with fail
  go_cut [75] (fun v wc => v = .bool (T && r4) ∧ w4.drewN m = wc)
  case first =>
    cases T
    all_goals go_wp2
    all_goals (go_meet; exact ⟨by first | rfl | simp [*], rfl⟩)
  obtain ⟨rfl, rfl⟩ := hcut
  generalize hX3 : (T && r4) = X3
  have HX3 := Lib.hid hX3
  clear hX3
  cases X3
  case true =>
    go_wp2_with fail
    obtain ⟨i1, i2, i3, i4⟩ := (show InB st by rw [HST.out]; exact I3.out)
    refine (within_any 4 none 0 0 [] st.1 st.2 true (w4.drewN m) ⟨rfl, by decide, fun h => absurd h (by decide)⟩ (by decide) (Nat.le_refl _) ByteL.nil i1 i2 i3 i4).mono ?_
    clear i1 i2 i3 i4
    rintro e w9 ⟨x1, x2, rfl, hv1, hv2, hb⟩
    obtain ⟨A1, k1, d1, rfl⟩ := hv1.shape'
    obtain ⟨A2, k2, d2, rfl⟩ := hv2.shape'
    have HP9 := Lib.hid (HXm.out.p.below hb)
    have HF := Lib.hid (plan_result (g := w.heap.size + 1 + 1) (index := 4) (s := true) HP9.out (by omega) (below_then HBm.out HBm.out.size hb) hv1 hv2)
    obtain ⟨⟨p0, p1, p2, p3⟩, f0, f1, f2, f3⟩ := HP9.out.cells
    clear hv1 hv2 hb q0 q1 r1c r2c r3c r4c
    simp only []
    repeat (first | go_values | go_skip | go_guarded | go_step | go_upon)
    obtain ⟨z0, z1, z2, z3⟩ := plan_cells HP9.out (.int .i64 4) (.slice A1 k1 d1) (.slice A2 k2 d2) (.bool true)
    try simp only [Exit.inBlock, Exit.then]
    refine bodyPost_ret (choose_results _ (w.heap.size + 1 + 1) _ _ _ _ _ rfl z0 z1 z2 z3) rfl ?_
    exact ⟨sv, sb, ov, ob, HS.out, HO.out, by rw [planF, HTT.out, HBB.out, HOO.out, if_neg (by rw [HX1.out]; decide), if_neg (by rw [HX2.out]; decide), if_pos HX3.out, ← HST.out]; exact HF.out⟩
  go_upto_region 12 with fail
  go_cut [84] (fun v wc => v = .bool (o == 2 && r3) ∧ w4.drewN m = wc)
  case first =>
    cases hx : (o == 2)
    all_goals go_wp2
    all_goals (go_meet; exact ⟨by first | rfl | simp [*], rfl⟩)
  obtain ⟨rfl, rfl⟩ := hcut
  generalize hX4 : (o == 2 && r3) = X4
  have HX4 := Lib.hid hX4
  clear hX4
  cases X4
  case true =>
    go_wp2_with fail
    obtain ⟨i1, i2, i3, i4⟩ := (show InB du by rw [HDU.out]; exact I4.out)
    refine (within_any 3 none 0 0 [] du.1 du.2 true (w4.drewN m) ⟨rfl, by decide, fun h => absurd h (by decide)⟩ (by decide) (Nat.le_refl _) ByteL.nil i1 i2 i3 i4).mono ?_
    clear i1 i2 i3 i4
    rintro e w9 ⟨x1, x2, rfl, hv1, hv2, hb⟩
    obtain ⟨A1, k1, d1, rfl⟩ := hv1.shape'
    obtain ⟨A2, k2, d2, rfl⟩ := hv2.shape'
    have HP9 := Lib.hid (HXm.out.p.below hb)
    have HF := Lib.hid (plan_result (g := w.heap.size + 1 + 1) (index := 3) (s := true) HP9.out (by omega) (below_then HBm.out HBm.out.size hb) hv1 hv2)
    obtain ⟨⟨p0, p1, p2, p3⟩, f0, f1, f2, f3⟩ := HP9.out.cells
    clear hv1 hv2 hb q0 q1 r1c r2c r3c r4c
    simp only []
    repeat (first | go_values | go_skip | go_guarded | go_step | go_upon)
    obtain ⟨z0, z1, z2, z3⟩ := plan_cells HP9.out (.int .i64 3) (.slice A1 k1 d1) (.slice A2 k2 d2) (.bool true)
    try simp only [Exit.inBlock, Exit.then]
    refine bodyPost_ret (choose_results _ (w.heap.size + 1 + 1) _ _ _ _ _ rfl z0 z1 z2 z3) rfl ?_
    exact ⟨sv, sb, ov, ob, HS.out, HO.out, by rw [planF, HTT.out, HBB.out, HOO.out, if_neg (by rw [HX1.out]; decide), if_neg (by rw [HX2.out]; decide), if_neg (by rw [HX3.out]; decide), if_pos HX4.out, ← HDU.out]; exact HF.out⟩
  go_upto_region 14 with fail
  go_cut [95] (fun v wc => v = .bool (o != 0 && B) ∧ w4.drewN m = wc)
  case first =>
    cases hx : (o != 0)
    all_goals go_wp2
    all_goals (go_meet; exact ⟨by first | rfl | simp [*], rfl⟩)
  obtain ⟨rfl, rfl⟩ := hcut
  generalize hX5 : (o != 0 && B) = X5
  have HX5 := Lib.hid hX5
  clear hX5
  cases X5
  case true =>
    have hs2 : sv.size ≤ 200 ∧ ov.size ≤ 200 := HSO.out B HBB.out (by have := HX5.out; simp_all)
    go_wp2_with fail
    refine (operation_any sv ov _ (by have := hs2.1; omega) (by have := hs2.2; omega)).mono ?_
    rintro e w5 ⟨v5, hd, rfl, ho, hh, hb⟩
    obtain ⟨g5, c5, rfl, _, _, hc5, hr5⟩ := ho.reads
    have HB5 := Lib.hid (below_then HBm.out HBm.out.size hb)
    have HY5 := Lib.hid (HXm.out.below hb)
    have HR5 := Lib.hid hr5
    have HH := Lib.hid hh
    have HC5 := Lib.hid hc5
    clear ho hh hb hc5 hr5
    have HLN : Hid (hd.length ≤ 10000) := (by unfold Hid; rw [HH.out]; have := bytesB_length sv; have := bytesB_length ov; have := hs2.1; have := hs2.2; simp; omega)
    have HBY : Hid (ByteL hd) := (by unfold Hid; rw [HH.out]; exact ((ByteL.text sv).append (fun x hx => by simp only [List.mem_cons, List.mem_nil_iff, or_false] at hx; omega)).append ((ByteL.text ov).append (fun x hx => by simp only [List.mem_cons, List.mem_nil_iff, or_false] at hx; omega)))
    go_wp2_with fail
    refine (beginning_any 2 _ _ c5 hd w5 HR5.out HLN.out HC5.out HBY.out).mono ?_
    rintro e w9 ⟨x1, x2, rfl, hv1, hv2, hb⟩
    obtain ⟨A1, k1, d1, rfl⟩ := hv1.shape'
    obtain ⟨A2, k2, d2, rfl⟩ := hv2.shape'
    have HP9 := Lib.hid (HY5.out.p.below hb)
    have HF := Lib.hid (plan_result (g := w.heap.size + 1 + 1) (index := 2) (s := false) HP9.out (by omega) (below_then HB5.out HB5.out.size hb) hv1 hv2)
    obtain ⟨⟨p0, p1, p2, p3⟩, f0, f1, f2, f3⟩ := HP9.out.cells
    clear hv1 hv2 hb q0 q1 r1c r2c r3c r4c
    simp only []
    repeat (first | go_values | go_skip | go_guarded | go_step | go_upon)
    obtain ⟨z0, z1, z2, z3⟩ := plan_cells HP9.out (.int .i64 2) (.slice A1 k1 d1) (.slice A2 k2 d2) (.bool false)
    try simp only [Exit.inBlock, Exit.then]
    refine bodyPost_ret (choose_results _ (w.heap.size + 1 + 1) _ _ _ _ _ rfl z0 z1 z2 z3) rfl ?_
    exact ⟨sv, sb, ov, ob, HS.out, HO.out, by rw [planF, HTT.out, HBB.out, HOO.out, if_neg (by rw [HX1.out]; decide), if_neg (by rw [HX2.out]; decide), if_neg (by rw [HX3.out]; decide), if_neg (by rw [HX4.out]; decide), if_pos HX5.out, ← HH.out]; exact HF.out⟩
  go_upto_region 16 with fail
  go_cut [106] (fun v wc => v = .bool (o != 0 && O) ∧ w4.drewN m = wc)
  case first =>
    cases hx : (o != 0)
    all_goals go_wp2
    all_goals (go_meet; exact ⟨by first | rfl | simp [*], rfl⟩)
  obtain ⟨rfl, rfl⟩ := hcut
  generalize hX6 : (o != 0 && O) = X6
  have HX6 := Lib.hid hX6
  clear hX6
  cases X6
  case true =>
    have hs1 : sv.size ≤ 200 := HSV.out O HOO.out (by have := HX6.out; simp_all)
    go_wp2_with fail
    refine (service_any sv _ (by have := hs1; omega)).mono ?_
    rintro e w5 ⟨v5, hd, rfl, ho, hh, hb⟩
    obtain ⟨g5, c5, rfl, _, _, hc5, hr5⟩ := ho.reads
    have HB5 := Lib.hid (below_then HBm.out HBm.out.size hb)
    have HY5 := Lib.hid (HXm.out.below hb)
    have HR5 := Lib.hid hr5
    have HH := Lib.hid hh
    have HC5 := Lib.hid hc5
    clear ho hh hb hc5 hr5
    have HLN : Hid (hd.length ≤ 10000) := (by unfold Hid; rw [HH.out]; have := bytesB_length sv; have := hs1; simp; omega)
    have HBY : Hid (ByteL hd) := (by unfold Hid; rw [HH.out]; exact (ByteL.text sv).append (fun x hx => by simp only [List.mem_cons, List.mem_nil_iff, or_false] at hx; omega))
    go_wp2_with fail
    refine (beginning_any 1 _ _ c5 hd w5 HR5.out HLN.out HC5.out HBY.out).mono ?_
    rintro e w9 ⟨x1, x2, rfl, hv1, hv2, hb⟩
    obtain ⟨A1, k1, d1, rfl⟩ := hv1.shape'
    obtain ⟨A2, k2, d2, rfl⟩ := hv2.shape'
    have HP9 := Lib.hid (HY5.out.p.below hb)
    have HF := Lib.hid (plan_result (g := w.heap.size + 1 + 1) (index := 1) (s := false) HP9.out (by omega) (below_then HB5.out HB5.out.size hb) hv1 hv2)
    obtain ⟨⟨p0, p1, p2, p3⟩, f0, f1, f2, f3⟩ := HP9.out.cells
    clear hv1 hv2 hb q0 q1 r1c r2c r3c r4c
    simp only []
    repeat (first | go_values | go_skip | go_guarded | go_step | go_upon)
    obtain ⟨z0, z1, z2, z3⟩ := plan_cells HP9.out (.int .i64 1) (.slice A1 k1 d1) (.slice A2 k2 d2) (.bool false)
    try simp only [Exit.inBlock, Exit.then]
    refine bodyPost_ret (choose_results _ (w.heap.size + 1 + 1) _ _ _ _ _ rfl z0 z1 z2 z3) rfl ?_
    exact ⟨sv, sb, ov, ob, HS.out, HO.out, by rw [planF, HTT.out, HBB.out, HOO.out, if_neg (by rw [HX1.out]; decide), if_neg (by rw [HX2.out]; decide), if_neg (by rw [HX3.out]; decide), if_neg (by rw [HX4.out]; decide), if_neg (by rw [HX5.out]; decide), if_pos HX6.out, ← HH.out]; exact HF.out⟩
  go_wp2_with fail
  refine (bounds_any A n c ts o _ _ (HT.out.below HBm.out)).mono ?_
  rintro e w5 ⟨he, hb⟩
  rw [ET.out] at he
  have I5 := Lib.hid (boundsF_in traceL ts HOK.out)
  obtain ⟨tr, ht⟩ : ∃ tr, tr = boundsF traceL ts := ⟨_, rfl⟩
  rw [← ht] at he
  subst he
  have HTR := Lib.hid ht
  have HB5 := Lib.hid (below_then HBm.out HBm.out.size hb)
  have HX5b := Lib.hid (HXm.out.below hb)
  clear ht hb q0 q1 r1c r2c r3c r4c
  obtain ⟨q0, q1, r1c, r2c, r3c, r4c⟩ := HX5b.out.cells
  go_wp2_with fail
  obtain ⟨i1, i2, i3, i4⟩ := (show InB tr by rw [HTR.out]; exact I5.out)
  refine (within_any 0 none 0 0 [] tr.1 tr.2 (o == 0) (w5) ⟨rfl, by decide, fun h => absurd h (by decide)⟩ (by decide) (Nat.le_refl _) ByteL.nil i1 i2 i3 i4).mono ?_
  clear i1 i2 i3 i4
  rintro e w9 ⟨x1, x2, rfl, hv1, hv2, hb⟩
  obtain ⟨A1, k1, d1, rfl⟩ := hv1.shape'
  obtain ⟨A2, k2, d2, rfl⟩ := hv2.shape'
  have HP9 := Lib.hid (HX5b.out.p.below hb)
  have HF := Lib.hid (plan_result (g := w.heap.size + 1 + 1) (index := 0) (s := (o == 0)) HP9.out (by omega) (below_then HB5.out HB5.out.size hb) hv1 hv2)
  obtain ⟨⟨p0, p1, p2, p3⟩, f0, f1, f2, f3⟩ := HP9.out.cells
  clear hv1 hv2 hb q0 q1 r1c r2c r3c r4c
  simp only []
  repeat (first | go_values | go_skip | go_guarded | go_step | go_upon)
  obtain ⟨z0, z1, z2, z3⟩ := plan_cells HP9.out (.int .i64 0) (.slice A1 k1 d1) (.slice A2 k2 d2) (.bool (o == 0))
  try simp only [Exit.inBlock, Exit.then]
  refine bodyPost_ret (choose_results _ (w.heap.size + 1 + 1) _ _ _ _ _ rfl z0 z1 z2 z3) rfl ?_
  exact ⟨sv, sb, ov, ob, HS.out, HO.out, by rw [planF, HTT.out, HBB.out, HOO.out, if_neg (by rw [HX1.out]; decide), if_neg (by rw [HX2.out]; decide), if_neg (by rw [HX3.out]; decide), if_neg (by rw [HX4.out]; decide), if_neg (by rw [HX5.out]; decide), if_neg (by rw [HX6.out]; decide), ← HTR.out]; exact HF.out⟩
end Go.Proofs.Ytmckgcooehdbaaa
