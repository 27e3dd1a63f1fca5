/- The contract of awake: it tells true. No condition beyond those that each theorem names. -/
import Derived.Test.YtmckgcooehdbaaaB7
set_option linter.unusedVariables false
set_option linter.unusedSimpArgs false
namespace Go.Proofs.Ytmckgcooehdbaaa
open Go.RowKit Go.Proofs.YtmckgcooehdbaaaW.PrintWords

def t0 : Term := ⟨⟨#[115, 101, 114, 118, 105, 99, 101]⟩, 0, 0, ⟨#[97, 112, 105]⟩, 0, false⟩
theorem svc_list : (⟨#[115, 101, 114, 118, 105, 99, 101]⟩ : ByteArray).toList = svcL := by simp [ByteArray.toList_eq, svcL]
theorem dur_list : (⟨#[100, 117, 114]⟩ : ByteArray).toList = durL := by simp [ByteArray.toList_eq, durL]
theorem api_list : (⟨#[97, 112, 105]⟩ : ByteArray).toList = [97, 112, 105] := by simp [ByteArray.toList_eq]
theorem t0_svc : wantP svcL t0 = true := by
  unfold wantP t0
  rw [svc_list]; rfl
theorem t0_op : wantP opL t0 = false := by
  unfold wantP t0
  rw [svc_list]; rfl
theorem wanted_svc {text : ByteArray} {b : Bool} (h : Wanted svcL [t0] text b) : b = true ∧ text = ⟨#[97, 112, 105]⟩ := by
  rcases h with ⟨rfl, h⟩ | ⟨rfl, t, ht, _, rfl⟩
  · have := h t0 List.mem_cons_self
    rw [t0_svc] at this; cases this
  · simp only [List.mem_cons, List.mem_nil_iff, or_false] at ht
    subst ht
    exact ⟨rfl, rfl⟩
theorem wanted_op {text : ByteArray} {b : Bool} (h : Wanted opL [t0] text b) : b = false := by
  rcases h with ⟨rfl, h⟩ | ⟨rfl, t, ht, hw, rfl⟩
  · rfl
  · simp only [List.mem_cons, List.mem_nil_iff, or_false] at ht
    subst ht
    rw [t0_op] at hw; cases hw
theorem awake_bounds (f : List UInt8) (h : svcL ≠ f) : boundsF f [t0] = (0, 9223372036854775807) := by
  unfold boundsF
  simp only [List.foldl_cons, List.foldl_nil, boundStep]
  rw [if_neg]
  unfold t0
  rw [svc_list]
  exact h
theorem awake_plan {sv ov : ByteArray} {sb ob : Bool} (h1 : Wanted svcL [t0] sv sb) (h2 : Wanted opL [t0] ov ob) :
    planF [t0] 1 true false false false sv sb ov ob = ⟨1, bytesB ⟨#[97, 112, 105]⟩ ++ [0] ++ keyB 0, toB (bytesB ⟨#[97, 112, 105]⟩ ++ [0]) 9223372036854775807, true⟩ := by
  obtain ⟨rfl, rfl⟩ := wanted_svc h1
  obtain rfl := wanted_op h2
  unfold planF
  rw [if_neg (by decide), if_pos (by decide), awake_bounds startL (by decide)]
  rfl

def Woken (w : World) (e : Ending) (w' : World) : Prop := e = .returned (.bool true) ∧ Below w.heap.size w w'

/-- A query in a block. -/
def QBox (w : World) (g : Nat) (A : Option Addr) (n c : Nat) (o : Int) : Prop := w.heap[g]? = some (.cells #[.slice A n c, .int .i64 o] 24 (0, 0))
theorem QBox.below {w w1 : World} {g : Nat} {A : Option Addr} {n c : Nat} {o : Int} (h : QBox w g A n c o) (hb : Below w.heap.size w w1) : QBox w1 g A n c o := (hb.block g (Array.getElem?_eq_some_iff.1 h).1).trans h
theorem QBox.cells {w : World} {g : Nat} {A : Option Addr} {n c : Nat} {o : Int} (h : QBox w g A n c o) : w.cell? ⟨g, 0, none⟩ = some (.slice A n c) ∧ w.cell? ⟨g, 1, none⟩ = some (.int .i64 o) := by
  unfold QBox at h
  simp [World.cell?, h]
/-- A plan in a block. -/
def PBox (w : World) (g : Nat) (i : Int) (v1 v2 : Value) (s : Bool) : Prop := w.heap[g]? = some (.cells #[.int .i64 i, v1, v2, .bool s] 38 (0, 0))
theorem PBox.below {w w1 : World} {g : Nat} {i : Int} {v1 v2 : Value} {s : Bool} (h : PBox w g i v1 v2 s) (hb : Below w.heap.size w w1) : PBox w1 g i v1 v2 s := (hb.block g (Array.getElem?_eq_some_iff.1 h).1).trans h
theorem PBox.cells {w : World} {g : Nat} {i : Int} {v1 v2 : Value} {s : Bool} (h : PBox w g i v1 v2 s) : w.cell? ⟨g, 0, none⟩ = some (.int .i64 i) ∧ w.cell? ⟨g, 1, none⟩ = some v1 ∧ w.cell? ⟨g, 2, none⟩ = some v2 ∧ w.cell? ⟨g, 3, none⟩ = some (.bool s) := by
  unfold PBox at h
  simp [World.cell?, h]

set_option maxHeartbeats 4000000 in
set_option maxRecDepth 100000 in
theorem awake_any (w : World) : Calls Try.prog 6 #[] w fun e w' => Woken w e w' := by
  go_enter Try.func6, Try.ntmps6
  go_upto_region 1 with fail
  go_cut [1] (fun v1 wc => ∃ g A, v1 = .pointer (some ⟨g, 0, none⟩) ∧ Aside0 (QBox wc g A 1 1 1) ∧ Aside0 (TermsAt wc A 1 [t0]) ∧ Aside0 (Below w.heap.size w wc))
  case first =>
    go_wp2
    go_meet
    refine ⟨w.heap.size + 1, some ⟨w.heap.size, 0, none⟩, rfl, ⟨?_⟩, ⟨⟨rfl, by decide, fun i hi => ⟨_, rfl, ?_⟩⟩⟩, ⟨?_⟩⟩
    · have h := heap_alloc_new (w.alloc (.cells #[.string ⟨#[115, 101, 114, 118, 105, 99, 101]⟩, .int .i64 0, .int .i64 0, .string ⟨#[97, 112, 105]⟩, .int .i64 0, .bool false] 47)) (.cells #[.slice (some ⟨w.heap.size, 0, none⟩) 1 1, .int .i64 1] 24)
      simpa [QBox] using h
    · obtain rfl : i = 0 := by simpa using hi
      have h := (TermAt.boxed w t0 47).below ((Below.refl _ _).alloc (Nat.le_refl _) (.cells #[.slice (some ⟨w.heap.size, 0, none⟩) 1 1, .int .i64 1] 24))
      rw [add_plain]
      exact h
    · exact ((Below.refl w.heap.size w).alloc (Nat.le_refl _) _).alloc (by simp) _
  obtain ⟨g, A, rfl, HQ, HT, HB⟩ := hcut
  have hok : TermsOk [t0] := fun t ht => by
    simp only [List.mem_cons, List.mem_nil_iff, or_false] at ht
    subst ht
    exact ⟨by decide, by decide, by decide⟩
  have HOK := Lib.hid hok
  clear hok
  obtain ⟨q0, q1⟩ := HQ.out.cells
  go_upto_region 2 with fail
  go_cut [2] (fun v2 w1 => ∃ g2 v1 v2' n, v2 = .pointer (some ⟨g2, 0, none⟩) ∧ Aside0 (PBox w1 g2 1 v1 v2' true) ∧ Aside0 (∃ A c, v1 = .slice A n c ∧ n = 12) ∧ Aside0 (Below wc.heap.size wc w1))
  case first =>
    go_wp2_with fail
    refine (choose_any A 1 1 [t0] 1 false true false false false _ HT.out HOK.out).mono ?_
    rintro e w1 ⟨sv, sb, ov, ob, h1, h2, h3⟩
    rw [awake_plan h1 h2] at h3
    obtain ⟨x1, x2, rfl, hv1, hv2, hb⟩ := h3
    dsimp only at hv1 hv2
    obtain ⟨A1, k1, rfl⟩ := hv1.shape
    obtain ⟨A2, k2, d2, rfl⟩ := hv2.shape'
    have H12 : Hid ((bytesB ⟨#[97, 112, 105]⟩ ++ [0] ++ keyB 0).length = 12) := by
      unfold Hid
      simp [bytesB_length, keyB]
      rfl
    generalize (bytesB ⟨#[97, 112, 105]⟩ ++ [0] ++ keyB 0).length = n1 at *
    have HBB := Lib.hid hb
    clear hb hv1 hv2 h1 h2
    go_wp2
    go_meet
    refine ⟨w1.heap.size, _, _, n1, rfl, ⟨heap_alloc_new _ _⟩, ⟨⟨A1, k1, rfl, H12.out⟩⟩, ⟨?_⟩⟩
    exact HBB.out.alloc HBB.out.size _
  obtain ⟨g2, x1, x2, n, rfl, HP, HN, HB1⟩ := hcut
  obtain ⟨A1, c1, rfl, rfl⟩ := HN.out
  rename World => w1
  have HB2 := Lib.hid (below_then HB.out HB.out.size HB1.out)
  have HQ1 := Lib.hid (HQ.out.below HB1.out)
  have HT1 := Lib.hid (HT.out.below HB1.out)
  clear q0 q1 HQ HT
  obtain ⟨q0, q1⟩ := HQ1.out.cells
  go_wp2_with fail
  refine (wants_any A 1 1 [t0] 1 _ _ HT1.out).mono ?_
  rintro e w2 ⟨sv, sb, rfl, hs, hb⟩
  rw [svc_list] at hs
  obtain ⟨rfl, rfl⟩ := wanted_svc hs
  have HB3 := Lib.hid (below_then HB2.out HB2.out.size hb)
  have HQ2 := Lib.hid (HQ1.out.below hb)
  have HT2 := Lib.hid (HT1.out.below hb)
  have HP2 := Lib.hid (HP.out.below hb)
  clear q0 q1 HQ1 HT1 HP HB2 hb hs
  obtain ⟨q0, q1⟩ := HQ2.out.cells
  go_wp2_with fail
  refine (bounds_any A 1 1 [t0] 1 _ _ HT2.out).mono ?_
  rintro e w3 ⟨he, hb⟩
  rw [dur_list, awake_bounds durL (by decide)] at he
  subst he
  have HB4 := Lib.hid (below_then HB3.out HB3.out.size hb)
  have HP3 := Lib.hid (HP2.out.below hb)
  clear q0 q1 hb HB3 HP2
  obtain ⟨p0, p1, p2, p3⟩ := HP3.out.cells
  have hapi := api_list
  go_wp2
  go_ret
  exact ⟨rfl, HB4.out⟩
end Go.Proofs.Ytmckgcooehdbaaa
