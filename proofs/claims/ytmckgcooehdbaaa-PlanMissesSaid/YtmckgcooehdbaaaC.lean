/- The contract of awake: it tells true and what follows: 2 texts in one. No condition beyond those that each theorem names. -/
import Derived.Test.YtmckgcooehdbaaaB7
/-! The contract of awake: it tells true. No condition beyond those that each theorem names. -/
set_option linter.unusedVariables false
set_option linter.unusedSimpArgs false
namespace Go.Proofs.Ytmckgcooehdbaaa
open Go.RowKit Go.Proofs.YtmckgcooehdbaaaW.PrintWords

def t0 : Term := ⟨⟨#[115, 101, 114, 118, 105, 99, 101]⟩, 0, 0, ⟨#[97, 112, 105]⟩, 0, false⟩
theorem svc_list : (⟨#[115, 101, 114, 118, 105, 99, 101]⟩ : ByteArray).toList = svcL := by simp [ByteArray.toList_eq, svcL]
theorem dur_list : (⟨#[100, 117, 114]⟩ : ByteArray).toList = durL := by simp [ByteArray.toList_eq, durL]
theorem api_list : (⟨#[97, 112, 105]⟩ : ByteArray).toList = [97, 112, 105] := by simp [ByteArray.toList_eq]
theorem t0_svc : wantP svcL t0 = true := by
  unfold wantP t0
  rw [svc_list]; rfl
theorem t0_op : wantP opL t0 = false := by
  unfold wantP t0
  rw [svc_list]; rfl
theorem wanted_svc {text : ByteArray} {b : Bool} (h : Wanted svcL [t0] text b) : b = true ∧ text = ⟨#[97, 112, 105]⟩ := by
  rcases h with ⟨rfl, h⟩ | ⟨rfl, t, ht, _, rfl⟩
  · have := h t0 List.mem_cons_self
    rw [t0_svc] at this; cases this
  · simp only [List.mem_cons, List.mem_nil_iff, or_false] at ht
    subst ht
    exact ⟨rfl, rfl⟩
theorem wanted_op {text : ByteArray} {b : Bool} (h : Wanted opL [t0] text b) : b = false := by
  rcases h with ⟨rfl, h⟩ | ⟨rfl, t, ht, hw, rfl⟩
  · rfl
  · simp only [List.mem_cons, List.mem_nil_iff, or_false] at ht
    subst ht
    rw [t0_op] at hw; cases hw
theorem awake_bounds (f : List UInt8) (h : svcL ≠ f) : boundsF f [t0] = (0, 9223372036854775807) := by
  unfold boundsF
  simp only [List.foldl_cons, List.foldl_nil, boundStep]
  rw [if_neg]
  unfold t0
  rw [svc_list]
  exact h
theorem awake_plan {sv ov : ByteArray} {sb ob : Bool} (h1 : Wanted svcL [t0] sv sb) (h2 : Wanted opL [t0] ov ob) :
    planF [t0] 1 true false false false sv sb ov ob = ⟨1, bytesB ⟨#[97, 112, 105]⟩ ++ [0] ++ keyB 0, toB (bytesB ⟨#[97, 112, 105]⟩ ++ [0]) 9223372036854775807, true⟩ := by
  obtain ⟨rfl, rfl⟩ := wanted_svc h1
  obtain rfl := wanted_op h2
  unfold planF
  rw [if_neg (by decide), if_pos (by decide), awake_bounds startL (by decide)]
  rfl

def Woken (w : World) (e : Ending) (w' : World) : Prop := e = .returned (.bool true) ∧ Below w.heap.size w w'

/-- A query in a block. -/
def QBox (w : World) (g : Nat) (A : Option Addr) (n c : Nat) (o : Int) : Prop := w.heap[g]? = some (.cells #[.slice A n c, .int .i64 o] 24 (0, 0))
theorem QBox.below {w w1 : World} {g : Nat} {A : Option Addr} {n c : Nat} {o : Int} (h : QBox w g A n c o) (hb : Below w.heap.size w w1) : QBox w1 g A n c o := (hb.block g (Array.getElem?_eq_some_iff.1 h).1).trans h
theorem QBox.cells {w : World} {g : Nat} {A : Option Addr} {n c : Nat} {o : Int} (h : QBox w g A n c o) : w.cell? ⟨g, 0, none⟩ = some (.slice A n c) ∧ w.cell? ⟨g, 1, none⟩ = some (.int .i64 o) := by
  unfold QBox at h
  simp [World.cell?, h]
/-- A plan in a block. -/
def PBox (w : World) (g : Nat) (i : Int) (v1 v2 : Value) (s : Bool) : Prop := w.heap[g]? = some (.cells #[.int .i64 i, v1, v2, .bool s] 38 (0, 0))
theorem PBox.below {w w1 : World} {g : Nat} {i : Int} {v1 v2 : Value} {s : Bool} (h : PBox w g i v1 v2 s) (hb : Below w.heap.size w w1) : PBox w1 g i v1 v2 s := (hb.block g (Array.getElem?_eq_some_iff.1 h).1).trans h
theorem PBox.cells {w : World} {g : Nat} {i : Int} {v1 v2 : Value} {s : Bool} (h : PBox w g i v1 v2 s) : w.cell? ⟨g, 0, none⟩ = some (.int .i64 i) ∧ w.cell? ⟨g, 1, none⟩ = some v1 ∧ w.cell? ⟨g, 2, none⟩ = some v2 ∧ w.cell? ⟨g, 3, none⟩ = some (.bool s) := by
  unfold PBox at h
  simp [World.cell?, h]

set_option maxHeartbeats 4000000 in
set_option maxRecDepth 100000 in
theorem awake_any (w : World) : Calls Try.prog 6 #[] w fun e w' => Woken w e w' := by
  go_enter Try.func6, Try.ntmps6
  go_upto_region 1 with fail
  go_cut [1] (fun v1 wc => ∃ g A, v1 = .pointer (some ⟨g, 0, none⟩) ∧ Aside0 (QBox wc g A 1 1 1) ∧ Aside0 (TermsAt wc A 1 [t0]) ∧ Aside0 (Below w.heap.size w wc))
  case first =>
    go_wp2
    go_meet
    refine ⟨w.heap.size + 1, some ⟨w.heap.size, 0, none⟩, rfl, ⟨?_⟩, ⟨⟨rfl, by decide, fun i hi => ⟨_, rfl, ?_⟩⟩⟩, ⟨?_⟩⟩
    · have h := heap_alloc_new (w.alloc (.cells #[.string ⟨#[115, 101, 114, 118, 105, 99, 101]⟩, .int .i64 0, .int .i64 0, .string ⟨#[97, 112, 105]⟩, .int .i64 0, .bool false] 47)) (.cells #[.slice (some ⟨w.heap.size, 0, none⟩) 1 1, .int .i64 1] 24)
      simpa [QBox] using h
    · obtain rfl : i = 0 := by simpa using hi
      have h := (TermAt.boxed w t0 47).below ((Below.refl _ _).alloc (Nat.le_refl _) (.cells #[.slice (some ⟨w.heap.size, 0, none⟩) 1 1, .int .i64 1] 24))
      rw [add_plain]
      exact h
    · exact ((Below.refl w.heap.size w).alloc (Nat.le_refl _) _).alloc (by simp) _
  obtain ⟨g, A, rfl, HQ, HT, HB⟩ := hcut
  have hok : TermsOk [t0] := fun t ht => by
    simp only [List.mem_cons, List.mem_nil_iff, or_false] at ht
    subst ht
    exact ⟨by decide, by decide, by decide⟩
  have HOK := Lib.hid hok
  clear hok
  obtain ⟨q0, q1⟩ := HQ.out.cells
  go_upto_region 2 with fail
  go_cut [2] (fun v2 w1 => ∃ g2 v1 v2' n, v2 = .pointer (some ⟨g2, 0, none⟩) ∧ Aside0 (PBox w1 g2 1 v1 v2' true) ∧ Aside0 (∃ A c, v1 = .slice A n c ∧ n = 12) ∧ Aside0 (Below wc.heap.size wc w1))
  case first =>
    go_wp2_with fail
    refine (choose_any A 1 1 [t0] 1 false true false false false _ HT.out HOK.out).mono ?_
    rintro e w1 ⟨sv, sb, ov, ob, h1, h2, h3⟩
    rw [awake_plan h1 h2] at h3
    obtain ⟨x1, x2, rfl, hv1, hv2, hb⟩ := h3
    dsimp only at hv1 hv2
    obtain ⟨A1, k1, rfl⟩ := hv1.shape
    obtain ⟨A2, k2, d2, rfl⟩ := hv2.shape'
    have H12 : Hid ((bytesB ⟨#[97, 112, 105]⟩ ++ [0] ++ keyB 0).length = 12) := by
      unfold Hid
      simp [bytesB_length, keyB]
      rfl
    generalize (bytesB ⟨#[97, 112, 105]⟩ ++ [0] ++ keyB 0).length = n1 at *
    have HBB := Lib.hid hb
    clear hb hv1 hv2 h1 h2
    go_wp2
    go_meet
    refine ⟨w1.heap.size, _, _, n1, rfl, ⟨heap_alloc_new _ _⟩, ⟨⟨A1, k1, rfl, H12.out⟩⟩, ⟨?_⟩⟩
    exact HBB.out.alloc HBB.out.size _
  obtain ⟨g2, x1, x2, n, rfl, HP, HN, HB1⟩ := hcut
  obtain ⟨A1, c1, rfl, rfl⟩ := HN.out
  rename World => w1
  have HB2 := Lib.hid (below_then HB.out HB.out.size HB1.out)
  have HQ1 := Lib.hid (HQ.out.below HB1.out)
  have HT1 := Lib.hid (HT.out.below HB1.out)
  clear q0 q1 HQ HT
  obtain ⟨q0, q1⟩ := HQ1.out.cells
  go_wp2_with fail
  refine (wants_any A 1 1 [t0] 1 _ _ HT1.out).mono ?_
  rintro e w2 ⟨sv, sb, rfl, hs, hb⟩
  rw [svc_list] at hs
  obtain ⟨rfl, rfl⟩ := wanted_svc hs
  have HB3 := Lib.hid (below_then HB2.out HB2.out.size hb)
  have HQ2 := Lib.hid (HQ1.out.below hb)
  have HT2 := Lib.hid (HT1.out.below hb)
  have HP2 := Lib.hid (HP.out.below hb)
  clear q0 q1 HQ1 HT1 HP HB2 hb hs
  obtain ⟨q0, q1⟩ := HQ2.out.cells
  go_wp2_with fail
  refine (bounds_any A 1 1 [t0] 1 _ _ HT2.out).mono ?_
  rintro e w3 ⟨he, hb⟩
  rw [dur_list, awake_bounds durL (by decide)] at he
  subst he
  have HB4 := Lib.hid (below_then HB3.out HB3.out.size hb)
  have HP3 := Lib.hid (HP2.out.below hb)
  clear q0 q1 hb HB3 HP2
  obtain ⟨p0, p1, p2, p3⟩ := HP3.out.cells
  have hapi := api_list
  go_wp2
  go_ret
  exact ⟨rfl, HB4.out⟩
end Go.Proofs.Ytmckgcooehdbaaa
/-! The walk of PlanReady: it returns true for every query and all that is ready. No condition beyond those that each theorem names. -/
set_option linter.unusedVariables false
set_option linter.unusedSimpArgs false
namespace Go.Proofs.Ytmckgcooehdbaaa
open Go.RowKit Go.Proofs.YtmckgcooehdbaaaW.PrintWords

/-- Five truths in a block. -/
def RBox (w : World) (g : Nat) (r0 r1 r2 r3 r4 : Bool) : Prop := w.heap[g]? = some (.cells #[.bool r0, .bool r1, .bool r2, .bool r3, .bool r4] 25 (0, 0))
theorem RBox.below {w w1 : World} {g : Nat} {r0 r1 r2 r3 r4 : Bool} (h : RBox w g r0 r1 r2 r3 r4) (hb : Below w.heap.size w w1) : RBox w1 g r0 r1 r2 r3 r4 := (hb.block g (Array.getElem?_eq_some_iff.1 h).1).trans h
theorem RBox.cells {w : World} {g : Nat} {r0 r1 r2 r3 r4 : Bool} (h : RBox w g r0 r1 r2 r3 r4) : w.cell? ⟨g, 0, none⟩ = some (.bool r0) ∧ w.cell? ⟨g, 1, none⟩ = some (.bool r1) ∧ w.cell? ⟨g, 2, none⟩ = some (.bool r2) ∧ w.cell? ⟨g, 3, none⟩ = some (.bool r3) ∧ w.cell? ⟨g, 4, none⟩ = some (.bool r4) := by
  unfold RBox at h
  simp [World.cell?, h]
/-- The law's two boxes. -/
structure Boxes (w : World) (g : Nat) (A : Option Addr) (n c : Nat) (o : Int) (r0 r1 r2 r3 r4 : Bool) : Prop where
  q : QBox w g A n c o
  r : RBox w (g + 1) r0 r1 r2 r3 r4
theorem Boxes.below {w w1 : World} {g : Nat} {A : Option Addr} {n c : Nat} {o : Int} {r0 r1 r2 r3 r4 : Bool} (h : Boxes w g A n c o r0 r1 r2 r3 r4) (hb : Below w.heap.size w w1) : Boxes w1 g A n c o r0 r1 r2 r3 r4 := ⟨h.q.below hb, h.r.below hb⟩
theorem Boxes.new (w : World) (A : Option Addr) (n c : Nat) (o : Int) (r0 r1 r2 r3 r4 : Bool) :
    Boxes ((w.alloc (.cells #[.slice A n c, .int .i64 o] 24)).alloc (.cells #[.bool r0, .bool r1, .bool r2, .bool r3, .bool r4] 25)) w.heap.size A n c o r0 r1 r2 r3 r4 := by
  refine ⟨?_, ?_⟩
  · unfold QBox
    rw [Below.heap_alloc _ _ _ (by simp), heap_alloc_new]
  · have h := heap_alloc_new (w.alloc (.cells #[.slice A n c, .int .i64 o] 24)) (.cells #[.bool r0, .bool r1, .bool r2, .bool r3, .bool r4] 25)
    simpa [RBox] using h

def NumsOk (ts : List Term) : Prop := ∀ t ∈ ts, -9223372036854775808 ≤ t.num ∧ t.num ≤ 9223372036854775807
theorem terms_ok {ts : List Term} {o : Int} (h : NumsOk ts) (hm : MayP ts o) : TermsOk ts := fun t ht => ⟨(hm.1 t ht).2.2.2, h t ht⟩

/-- Which index a plan is by. -/
def IndexOk (p : Plan) (o : Int) (r1 r2 r3 r4 : Bool) : Prop :=
  (p.index = 0 ∨ p.index = 1 ∧ r1 = true ∨ p.index = 2 ∧ r2 = true ∨ p.index = 3 ∧ r3 = true ∨ p.index = 4 ∧ r4 = true) ∧ (o = 0 → p.index = 0 ∧ p.sorted = true)
theorem planF_index (ts : List Term) (o : Int) (r1 r2 r3 r4 : Bool) (sv : ByteArray) (sb : Bool) (ov : ByteArray) (ob : Bool) : IndexOk (planF ts o r1 r2 r3 r4 sv sb ov ob) o r1 r2 r3 r4 := by
  unfold planF
  split
  · rename_i h
    simp only [Bool.and_eq_true, beq_iff_eq] at h
    exact ⟨.inr (.inr (.inl ⟨rfl, h.2.2⟩)), fun h0 => by omega⟩
  split
  · rename_i h
    simp only [Bool.and_eq_true, beq_iff_eq] at h
    exact ⟨.inr (.inl ⟨rfl, h.2.2⟩), fun h0 => by omega⟩
  split
  · rename_i h
    simp only [Bool.and_eq_true, beq_iff_eq] at h
    exact ⟨.inr (.inr (.inr (.inr ⟨rfl, h.2⟩))), fun h0 => by omega⟩
  split
  · rename_i h
    simp only [Bool.and_eq_true, beq_iff_eq] at h
    exact ⟨.inr (.inr (.inr (.inl ⟨rfl, h.2⟩))), fun h0 => by omega⟩
  split
  · rename_i h
    simp only [Bool.and_eq_true, bne_iff_ne] at h
    exact ⟨.inr (.inr (.inl ⟨rfl, h.2.2⟩)), fun h0 => absurd h0 h.1⟩
  split
  · rename_i h
    simp only [Bool.and_eq_true, bne_iff_ne] at h
    exact ⟨.inr (.inl ⟨rfl, h.2.2⟩), fun h0 => absurd h0 h.1⟩
  · exact ⟨.inl rfl, fun h0 => ⟨rfl, by subst h0; rfl⟩⟩
theorem planF_none (ts : List Term) (o : Int) (sv : ByteArray) (sb : Bool) (ov : ByteArray) (ob : Bool) : (planF ts o false false false false sv sb ov ob).index = 0 ∧ (planF ts o false false false false sv sb ov ob).sorted = (o == 0) := by
  unfold planF
  simp [withinF]

set_option maxHeartbeats 4000000 in
set_option maxRecDepth 100000 in
theorem ready_any (A : Option Addr) (n c : Nat) (ts : List Term) (o : Int) (r0 r1 r2 r3 r4 : Bool) (w : World) (h : TermsAt w A n ts) (hnum : NumsOk ts) :
    Calls Try.prog 5 #[.agg #[.slice A n c, .int .i64 o], .agg #[.bool r0, .bool r1, .bool r2, .bool r3, .bool r4]] w fun e w' => Woken w e w' := by
  have HT := Lib.hid h
  have HN := Lib.hid hnum
  clear h hnum
  have HB0 := Lib.hid (((Below.refl w.heap.size w).alloc (Nat.le_refl _) (.cells #[.slice A n c, .int .i64 o] 24)).alloc (by simp) (.cells #[.bool r0, .bool r1, .bool r2, .bool r3, .bool r4] 25))
  have HX0 := Lib.hid (Boxes.new w A n c o r0 r1 r2 r3 r4)
  go_enter Try.func5, Try.ntmps5
  go_wp2_with fail
  refine (awake_any _).mono ?_
  rintro e w1 ⟨rfl, hb⟩
  have HB1 := Lib.hid (below_then HB0.out HB0.out.size hb)
  have HX1 := Lib.hid (HX0.out.below hb)
  clear hb HB0 HX0
  obtain ⟨q0, q1⟩ := HX1.out.q.cells
  go_upto_region 3 with fail
  go_cut [16] (fun v16 wc => ∃ b : Bool, v16 = .bool b ∧ Aside0 (b = false → MayP ts o) ∧ Aside0 (Below w1.heap.size w1 wc))
  case first =>
    go_wp2_with fail
    refine (smallQ_any A n c ts o _ (HT.out.below HB1.out)).mono ?_
    rintro e w2 ⟨b, rfl, hb⟩
    have HB2 := Lib.hid hb
    clear hb
    cases b
    · go_wp2
      go_meet
      exact ⟨true, rfl, ⟨fun h => by cases h⟩, ⟨HB2.out⟩⟩
    · clear q0 q1
      obtain ⟨q0, q1⟩ := (HX1.out.below HB2.out).q.cells
      go_wp2_with fail
      refine (may_any A n c ts o _ (HT.out.below (below_then HB1.out HB1.out.size HB2.out))).mono ?_
      rintro e w3 ⟨b, rfl, hm, hb⟩
      have HM := Lib.hid hm
      have HB3 := Lib.hid (below_then HB2.out HB2.out.size hb)
      clear hm hb
      go_wp2
      go_meet
      exact ⟨!b, rfl, ⟨fun h => HM.out (by simpa using h)⟩, ⟨HB3.out⟩⟩
  obtain ⟨b, rfl, HM, HBc⟩ := hcut
  have HB2 := Lib.hid (below_then HB1.out HB1.out.size HBc.out)
  have HX2 := Lib.hid (HX1.out.below HBc.out)
  clear q0 q1 HB1 HX1 HBc
  cases b
  case true =>
    go_wp2
    go_ret
    exact ⟨rfl, HB2.out⟩
  have HOK := Lib.hid (terms_ok HN.out (HM.out rfl))
  clear HM
  obtain ⟨q0, q1⟩ := HX2.out.q.cells
  obtain ⟨t0, t1, t2, t3, t4⟩ := HX2.out.r.cells
  go_wp2_with fail
  refine (choose_any A n c ts o r0 r1 r2 r3 r4 _ (HT.out.below HB2.out) HOK.out).mono ?_
  rintro e w3 ⟨sv, sb, ov, ob, h1, h2, h3⟩
  have hi := planF_index ts o r1 r2 r3 r4 sv sb ov ob
  generalize planF ts o r1 r2 r3 r4 sv sb ov ob = p at h3 hi
  obtain ⟨x1, x2, rfl, hv1, hv2, hb⟩ := h3
  obtain ⟨A1, k1, d1, rfl⟩ := hv1.shape'
  obtain ⟨A2, k2, d2, rfl⟩ := hv2.shape'
  have HI := Lib.hid hi
  have HB3 := Lib.hid (below_then HB2.out HB2.out.size hb)
  have HX3 := Lib.hid (HX2.out.below hb)
  clear h1 h2 hv1 hv2 hi hb q0 q1 t0 t1 t2 t3 t4 HB2 HX2
  obtain ⟨pi, pfrom, pto, psrt⟩ := p
  have hP : PBox (w3.alloc (.cells #[.int .i64 pi, .slice A1 k1 d1, .slice A2 k2 d2, .bool psrt] 38)) w3.heap.size pi (.slice A1 k1 d1) (.slice A2 k2 d2) psrt := heap_alloc_new _ _
  have hb4 := (Below.refl w3.heap.size w3).alloc (Nat.le_refl _) (.cells #[.int .i64 pi, .slice A1 k1 d1, .slice A2 k2 d2, .bool psrt] 38)
  have HP := Lib.hid hP
  have HB4 := Lib.hid (below_then HB3.out HB3.out.size hb4)
  have HX4 := Lib.hid (HX3.out.below hb4)
  clear hP hb4 HB3 HX3
  obtain ⟨q0, q1⟩ := HX4.out.q.cells
  go_wp2_with fail
  refine (choose_any A n c ts o false false false false false _ (HT.out.below HB4.out) HOK.out).mono ?_
  rintro e w5 ⟨sv', sb', ov', ob', h1, h2, h3⟩
  have hi := planF_none ts o sv' sb' ov' ob'
  generalize planF ts o false false false false sv' sb' ov' ob' = p at h3 hi
  obtain ⟨x1, x2, rfl, hv1, hv2, hb⟩ := h3
  obtain ⟨A3, k3, d3, rfl⟩ := hv1.shape'
  obtain ⟨A4, k4, d4, rfl⟩ := hv2.shape'
  obtain ⟨qi, qfrom, qto, qsrt⟩ := p
  obtain ⟨hi1, hi2⟩ := hi
  replace hi1 : qi = 0 := hi1
  replace hi2 : qsrt = (o == 0) := hi2
  subst hi1 hi2
  have HP5 := Lib.hid (HP.out.below hb)
  have HB5 := Lib.hid (below_then HB4.out HB4.out.size hb)
  have HX5 := Lib.hid (HX4.out.below hb)
  clear h1 h2 hv1 hv2 hb q0 q1 HB4 HX4 HP
  have hP : PBox (w5.alloc (.cells #[.int .i64 0, .slice A3 k3 d3, .slice A4 k4 d4, .bool (o == 0)] 38)) w5.heap.size 0 (.slice A3 k3 d3) (.slice A4 k4 d4) (o == 0) := heap_alloc_new _ _
  have hb6 := (Below.refl w5.heap.size w5).alloc (Nat.le_refl _) (.cells #[.int .i64 0, .slice A3 k3 d3, .slice A4 k4 d4, .bool (o == 0)] 38)
  go_upto_region 7 with fail
  obtain ⟨a0, _, _, a3⟩ := hP.cells
  obtain ⟨p0, _, _, p3⟩ := (HP5.out.below hb6).cells
  have HX6 := HX5.out.below hb6
  obtain ⟨q0, q1⟩ := HX6.q.cells
  obtain ⟨t0, t1, t2, t3, t4⟩ := HX6.r.cells
  have HBF := Lib.hid (below_then HB5.out HB5.out.size hb6)
  clear hP hb6 HX6
  generalize (w5.alloc (.cells #[.int .i64 0, .slice A3 k3 d3, .slice A4 k4 d4, .bool (o == 0)] 38)) = W6 at *
  obtain ⟨hidx, hz⟩ : (pi = 0 ∨ pi = 1 ∧ r1 = true ∨ pi = 2 ∧ r2 = true ∨ pi = 3 ∧ r3 = true ∨ pi = 4 ∧ r4 = true) ∧ (o = 0 → pi = 0 ∧ psrt = true) := HI.out
  by_cases h0 : o = 0
  · obtain ⟨rfl, rfl⟩ := hz h0
    subst h0
    clear hidx hz
    go_wp2
    go_ret
    exact ⟨rfl, HBF.out⟩
  · have hb0 : (o == 0) = false := beq_eq_false_iff_ne.mpr h0
    have hb1 : (o != 0) = true := bne_iff_ne.mpr h0
    clear hz h0
    rcases hidx with rfl | ⟨rfl, rfl⟩ | ⟨rfl, rfl⟩ | ⟨rfl, rfl⟩ | ⟨rfl, rfl⟩
    all_goals (go_wp2; go_ret; exact ⟨rfl, HBF.out⟩)
end Go.Proofs.Ytmckgcooehdbaaa
