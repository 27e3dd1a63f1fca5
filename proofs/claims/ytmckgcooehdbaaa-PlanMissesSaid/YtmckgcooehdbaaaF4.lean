/- A region of cambiumref02.Match that draws its order, each operation shown once (XT0): what it stores is a truth. No condition beyond those that each theorem names. -/
import Derived.Test.YtmckgcooehdbaaaF2
import Derived.Test.YtmckgcooehdbaaaT0
set_option linter.unusedVariables false
set_option linter.unusedSimpArgs false
set_option linter.unnecessarySimpa false
namespace Go.Proofs.Ytmckgcooehdbaaa
open Go.RowKit Go.Proofs.YtmckgcooehdbaaaW.PrintWords Go.Proofs.YtmckgcooehdbaaaW.PrintLast Go.Proofs.Ytmckgcooehdbaaa.PMiss

/-- A row of n truths in block g, of the call's own. -/
structure BRow (w : World) (base g n : Nat) : Prop where
  ge : base ≤ g
  lt : g < w.heap.size
  cell : ∀ j, j < n → ∃ b : Bool, w.cell? ⟨g, j, none⟩ = some (.bool b)
  free : ∀ j, j < n → w.frozen? ⟨g, j, none⟩ = false
theorem BRow.of_R {w : World} {base : Nat} {ok : Nat → Prop} {v : Value} {xs : List Bool} (h : Kd.R Kd.bool 4 w base ok v xs) (h0 : 0 < xs.length) : ∃ g cap, v = .slice (some ⟨g, 0, none⟩) xs.length cap ∧ BRow w base g xs.length := by
  obtain ⟨g, cap, rfl, hb, hl, cells, hc⟩ := Kd.R_form h h0
  exact ⟨g, cap, rfl, hb, hl, fun j hj => ⟨_, (Kd.R_celln false h (j : Int) (by omega) (by omega)).1⟩, fun j hj => (Kd.R_celln false h (j : Int) (by omega) (by omega)).2⟩
theorem BRow.below {w w1 : World} {base g n : Nat} (h : BRow w base g n) (hb : Below w.heap.size w w1) : BRow w1 base g n :=
  ⟨h.ge, Nat.lt_of_lt_of_le h.lt hb.size, fun j hj => let ⟨b, hc⟩ := h.cell j hj; ⟨b, pw_cell_below hb hc⟩, fun j hj => (hb.frozen (p := ⟨g, j, none⟩) h.lt).trans (h.free j hj)⟩
theorem BRow.drew {w : World} {base g n : Nat} (h : BRow w base g n) : BRow w.drew base g n := ⟨h.ge, h.lt, h.cell, h.free⟩
theorem BRow.lower {w : World} {base base' g n : Nat} (h : BRow w base g n) (hb : base' ≤ base) : BRow w base' g n := ⟨by have := h.ge; omega, h.lt, h.cell, h.free⟩
theorem BRow.put {w : World} {base g n : Nat} (h : BRow w base g n) (i : Nat) (hi : i < n) (x : Bool) : BRow (w.setCell ⟨g, i, none⟩ (.bool x)) base g n := by
  obtain ⟨b, hb⟩ := h.cell i hi
  refine ⟨h.ge, by simpa [World.setCell] using h.lt, fun j hj => ?_, fun j hj => ?_⟩
  · by_cases e : j = i
    · subst e
      exact ⟨x, World.cell?_setCell_same _ _ _ hb⟩
    · obtain ⟨b', hb'⟩ := h.cell j hj
      exact ⟨b', (World.cell?_setCell_other _ _ _ _ (by simp <;> omega)).trans hb'⟩
  · rw [World.frozen?_setCell]; exact h.free j hj

/-- Nothing below base has turned, and the row that is written stays one. -/
def SG (base N g2 : Nat) (w w' : World) : Prop := Below base w w' ∧ (BRow w base g2 N → BRow w' base g2 N)
noncomputable def RG : Array Oper := opsOf Try.f43 14
def BG : List Nat := [0, 0, 0, 4, 12, 28, 28, 92, 252, 508, 1020, 2044, 4092, 4092, 16380, 32764, 65532, 131068, 262140, 262140, 1048572, 2097148, 262140, 262140, 8650748, 29622268, 63176700, 134217724, 268435452, 536870908, 1073741823, 2147483647]
theorem waitsG : waitsOk (rtab .any RG).2 BG = true := by kernel_rfl
theorem baseG : baseOk (rtab .any RG).2 (List.range 32) = true := by kernel_rfl
theorem guardsG : guardsOk RG BG = true := by kernel_rfl
theorem sizeG : RG.size = 32 := by kernel_rfl
theorem oneG : decide (((dstsOf RG).map (·.1)).Nodup) = true := by kernel_rfl
theorem twoG : decide (((dstsOf RG).map (·.2)).Nodup) = true := by kernel_rfl
theorem dstsG : dstsOf RG = [(0, 64), (1, 65), (2, 66), (3, 67), (4, 68), (5, 69), (6, 70), (7, 71), (8, 72), (9, 73), (10, 74), (11, 75), (12, 76), (13, 77), (14, 78), (15, 79), (16, 80), (17, 81), (18, 82), (19, 83), (20, 84), (21, 85), (22, 86), (23, 87), (24, 88), (25, 89), (26, 90), (27, 91), (28, 92), (29, 93), (30, 94)] := by kernel_rfl
theorem atG (i : Nat) (h : i < 32) : RG[i]? = some (RG[i]'(sizeG ▸ h)) := Array.getElem?_eq_getElem _
noncomputable abbrev Gop (i : Nat) (h : i < 32) : Oper := RG[i]'(sizeG ▸ h)
def VG (N g g2 cap cap2 i jj n m c1 c2 : Nat) (ad : Addr) (A2 : Option Addr) (ad2 : Addr) (dj rb q2 q3 : Bool) (x0 y0 : Int) : Nat → Value → World → Prop
  | 0, v, w => v = .slice (some ⟨g2, 0, none⟩) N cap2
  | 1, v, w => v = .int .i64 jj
  | 2, v, w => v = .int .i64 jj
  | 3, v, w => v = .bool dj
  | 4, v, w => v = .bool dj
  | 5, v, w => v = .slice (some ⟨g, 0, none⟩) N cap
  | 6, v, w => v = .int .i64 jj
  | 7, v, w => v = .int .i64 ((jj : Int) - 1)
  | 8, v, w => v = .pointer (some ⟨g, jj - 1, none⟩)
  | 9, v, w => v = .bool rb
  | 10, v, w => v = .bool (dj && rb)
  | 11, v, w => v = .bool (dj && rb)
  | 12, v, w => v = .slice (some ad) n c1
  | 13, v, w => v = .int .i64 i
  | 14, v, w => v = .pointer (some (ad.add i))
  | 15, v, w => v = .int .i64 x0
  | 16, v, w => v = .bool q2
  | 17, v, w => v = .bool q2
  | 18, v, w => v = .slice (some ad) n c1
  | 19, v, w => v = .int .i64 i
  | 20, v, w => v = .pointer (some (ad.add i))
  | 21, v, w => v = .int .i64 x0
  | 22, v, w => v = .slice A2 m c2
  | 23, v, w => v = .int .i64 jj
  | 24, v, w => v = .int .i64 ((jj : Int) - 1)
  | 25, v, w => v = .pointer (some (ad2.add (jj - 1)))
  | 26, v, w => v = .int .i64 y0
  | 27, v, w => v = .bool q3
  | 28, v, w => v = .bool (q2 || q3)
  | 29, v, w => v = .bool (dj && rb && (q2 || q3))
  | 30, v, w => v = .pointer (some ⟨g2, jj, none⟩)
  | _, _, _ => True
structure InG (base : Nat) (w0 : World) (a0 : Act) (N g g2 cap cap2 i jj n m c1 c2 : Nat) (ad : Addr) (A2 : Option Addr) (ad2 : Addr) (dj rb q2 q3 : Bool) (x0 y0 : Int) : Prop where
  hbase : base ≤ w0.heap.size
  s10 : a0.tmps[10]? = some (.slice (some ⟨g2, 0, none⟩) N cap2)
  s11 : a0.tmps[11]? = some (.int .i64 jj)
  s8 : a0.tmps[8]? = some (.slice (some ⟨g, 0, none⟩) N cap)
  s5 : a0.tmps[5]? = some (.slice (some ad) n c1)
  s9 : a0.tmps[9]? = some (.int .i64 i)
  s6 : a0.tmps[6]? = some (.slice A2 m c2)
  dj0 : decide (0 < jj) = dj
  dj1 : dj = true → 0 < jj
  jl : jj < N
  nl : N ≤ 1000000
  il : i < n
  gl : g < base
  row : 0 < jj → w0.cell? ⟨g, jj - 1, none⟩ = some (.bool rb)
  pl : (ad.add i).block < base
  p : w0.cell? (ad.add i) = some (.int .i64 x0)
  q2 : (x0 == -2) = q2
  q3 : (x0 == y0) = q3
  t0 : 0 < jj → A2 = some ad2 ∧ jj ≤ m
  tl : 0 < jj → (ad2.add (jj - 1)).block < base
  t1 : 0 < jj → w0.cell? (ad2.add (jj - 1)) = some (.int .i64 y0)
  nxt : BRow w0 base g2 N
section
variable {Q : Exit → Act → World → Prop} {base : Nat} {w0 : World} {a0 : Act} {N g g2 cap cap2 i jj n m c1 c2 : Nat} {ad : Addr} {A2 : Option Addr} {ad2 : Addr} {dj rb q2 q3 : Bool} {x0 y0 : Int}
theorem hR {base N g2 : Nat} (w : World) : SG base N g2 w w := ⟨Below.refl _ _, fun h => h⟩
theorem hT {base N g2 : Nat} (a b c : World) (h1 : SG base N g2 a b) (h2 : SG base N g2 b c) : SG base N g2 a c := ⟨h1.1.trans h2.1, fun h => h2.2 (h1.2 h)⟩
theorem G_0 (hin : InG base w0 a0 N g g2 cap cap2 i jj n m c1 c2 ad A2 ad2 dj rb q2 q3 x0 y0) : Ob Try.prog RG Q BG a0 (SG base N g2) w0 (VG N g g2 cap cap2 i jj n m c1 c2 ad A2 ad2 dj rb q2 q3 x0 y0) 0 := by
  intro o x a w ho hB hd hu hs hf hw K hK
  obtain rfl : Gop 0 (by decide) = o := Option.some.inj ((atG 0 (by decide)).symm.trans ho)
  have t10 := (hf 10 (by kernel_rfl)).trans hin.s10
  have hrun : (execOp a.eval (Gop 0 (by decide))).run Try.prog w = .ok (.value (.slice (some ⟨g2, 0, none⟩) N cap2)) w := by
    unfold execOp
    rw [show (Gop 0 (by decide)).op = .move (.tmp 10) from by kernel_rfl]
    simp [go_sem, t10]
  exact wp_val hrun (hK _ _ (hR _) (rfl))

theorem G_1 (hin : InG base w0 a0 N g g2 cap cap2 i jj n m c1 c2 ad A2 ad2 dj rb q2 q3 x0 y0) : Ob Try.prog RG Q BG a0 (SG base N g2) w0 (VG N g g2 cap cap2 i jj n m c1 c2 ad A2 ad2 dj rb q2 q3 x0 y0) 1 := by
  intro o x a w ho hB hd hu hs hf hw K hK
  obtain rfl : Gop 1 (by decide) = o := Option.some.inj ((atG 1 (by decide)).symm.trans ho)
  have t11 := (hf 11 (by kernel_rfl)).trans hin.s11
  have hrun : (execOp a.eval (Gop 1 (by decide))).run Try.prog w = .ok (.value (.int .i64 jj)) w := by
    unfold execOp
    rw [show (Gop 1 (by decide)).op = .move (.tmp 11) from by kernel_rfl]
    simp [go_sem, t11]
  exact wp_val hrun (hK _ _ (hR _) (rfl))

theorem G_2 (hin : InG base w0 a0 N g g2 cap cap2 i jj n m c1 c2 ad A2 ad2 dj rb q2 q3 x0 y0) : Ob Try.prog RG Q BG a0 (SG base N g2) w0 (VG N g g2 cap cap2 i jj n m c1 c2 ad A2 ad2 dj rb q2 q3 x0 y0) 2 := by
  intro o x a w ho hB hd hu hs hf hw K hK
  obtain rfl : Gop 2 (by decide) = o := Option.some.inj ((atG 2 (by decide)).symm.trans ho)
  have t11 := (hf 11 (by kernel_rfl)).trans hin.s11
  have hrun : (execOp a.eval (Gop 2 (by decide))).run Try.prog w = .ok (.value (.int .i64 jj)) w := by
    unfold execOp
    rw [show (Gop 2 (by decide)).op = .move (.tmp 11) from by kernel_rfl]
    simp [go_sem, t11]
  exact wp_val hrun (hK _ _ (hR _) (rfl))

theorem G_4 (hin : InG base w0 a0 N g g2 cap cap2 i jj n m c1 c2 ad A2 ad2 dj rb q2 q3 x0 y0) : Ob Try.prog RG Q BG a0 (SG base N g2) w0 (VG N g g2 cap cap2 i jj n m c1 c2 ad A2 ad2 dj rb q2 q3 x0 y0) 4 := by
  intro o x a w ho hB hd hu hs hf hw K hK
  obtain rfl : Gop 4 (by decide) = o := Option.some.inj ((atG 4 (by decide)).symm.trans ho)
  have t67 := hs 3 67 _ (atG 3 (by decide)) (by kernel_rfl) rfl
  have d67 : x 3 = .bool dj := hd 3 _ (atG 3 (by decide)) rfl (wants_none (by kernel_rfl))
  rw [d67] at t67
  have hrun : (execOp a.eval (Gop 4 (by decide))).run Try.prog w = .ok (.value (.bool dj)) w := by
    unfold execOp
    rw [show (Gop 4 (by decide)).op = .move (.tmp 67) from by kernel_rfl]
    simp [go_sem, t67]
  exact wp_val hrun (hK _ _ (hR _) (rfl))

theorem G_5 (hin : InG base w0 a0 N g g2 cap cap2 i jj n m c1 c2 ad A2 ad2 dj rb q2 q3 x0 y0) : Ob Try.prog RG Q BG a0 (SG base N g2) w0 (VG N g g2 cap cap2 i jj n m c1 c2 ad A2 ad2 dj rb q2 q3 x0 y0) 5 := by
  intro o x a w ho hB hd hu hs hf hw K hK
  obtain rfl : Gop 5 (by decide) = o := Option.some.inj ((atG 5 (by decide)).symm.trans ho)
  have hg := (wants_some (show (Gop 5 (by decide)).guard = some (4, true) from by kernel_rfl)).1 hw
  have t8 := (hf 8 (by kernel_rfl)).trans hin.s8
  have hrun : (execOp a.eval (Gop 5 (by decide))).run Try.prog w = .ok (.value (.slice (some ⟨g, 0, none⟩) N cap)) w := by
    unfold execOp
    rw [show (Gop 5 (by decide)).op = .move (.tmp 8) from by kernel_rfl]
    simp [go_sem, t8]
  exact wp_val hrun (hK _ _ (hR _) (rfl))

theorem G_6 (hin : InG base w0 a0 N g g2 cap cap2 i jj n m c1 c2 ad A2 ad2 dj rb q2 q3 x0 y0) : Ob Try.prog RG Q BG a0 (SG base N g2) w0 (VG N g g2 cap cap2 i jj n m c1 c2 ad A2 ad2 dj rb q2 q3 x0 y0) 6 := by
  intro o x a w ho hB hd hu hs hf hw K hK
  obtain rfl : Gop 6 (by decide) = o := Option.some.inj ((atG 6 (by decide)).symm.trans ho)
  have hg := (wants_some (show (Gop 6 (by decide)).guard = some (4, true) from by kernel_rfl)).1 hw
  have t11 := (hf 11 (by kernel_rfl)).trans hin.s11
  have hrun : (execOp a.eval (Gop 6 (by decide))).run Try.prog w = .ok (.value (.int .i64 jj)) w := by
    unfold execOp
    rw [show (Gop 6 (by decide)).op = .move (.tmp 11) from by kernel_rfl]
    simp [go_sem, t11]
  exact wp_val hrun (hK _ _ (hR _) (rfl))

theorem G_11 (hin : InG base w0 a0 N g g2 cap cap2 i jj n m c1 c2 ad A2 ad2 dj rb q2 q3 x0 y0) : Ob Try.prog RG Q BG a0 (SG base N g2) w0 (VG N g g2 cap cap2 i jj n m c1 c2 ad A2 ad2 dj rb q2 q3 x0 y0) 11 := by
  intro o x a w ho hB hd hu hs hf hw K hK
  obtain rfl : Gop 11 (by decide) = o := Option.some.inj ((atG 11 (by decide)).symm.trans ho)
  have t74 := hs 10 74 _ (atG 10 (by decide)) (by kernel_rfl) rfl
  have d74 : x 10 = .bool (dj && rb) := hd 10 _ (atG 10 (by decide)) rfl (wants_none (by kernel_rfl))
  rw [d74] at t74
  have hrun : (execOp a.eval (Gop 11 (by decide))).run Try.prog w = .ok (.value (.bool (dj && rb))) w := by
    unfold execOp
    rw [show (Gop 11 (by decide)).op = .move (.tmp 74) from by kernel_rfl]
    simp [go_sem, t74]
  exact wp_val hrun (hK _ _ (hR _) (rfl))

theorem G_12 (hin : InG base w0 a0 N g g2 cap cap2 i jj n m c1 c2 ad A2 ad2 dj rb q2 q3 x0 y0) : Ob Try.prog RG Q BG a0 (SG base N g2) w0 (VG N g g2 cap cap2 i jj n m c1 c2 ad A2 ad2 dj rb q2 q3 x0 y0) 12 := by
  intro o x a w ho hB hd hu hs hf hw K hK
  obtain rfl : Gop 12 (by decide) = o := Option.some.inj ((atG 12 (by decide)).symm.trans ho)
  have hg := (wants_some (show (Gop 12 (by decide)).guard = some (11, true) from by kernel_rfl)).1 hw
  have t5 := (hf 5 (by kernel_rfl)).trans hin.s5
  have hrun : (execOp a.eval (Gop 12 (by decide))).run Try.prog w = .ok (.value (.slice (some ad) n c1)) w := by
    unfold execOp
    rw [show (Gop 12 (by decide)).op = .move (.tmp 5) from by kernel_rfl]
    simp [go_sem, t5]
  exact wp_val hrun (hK _ _ (hR _) (rfl))

theorem G_13 (hin : InG base w0 a0 N g g2 cap cap2 i jj n m c1 c2 ad A2 ad2 dj rb q2 q3 x0 y0) : Ob Try.prog RG Q BG a0 (SG base N g2) w0 (VG N g g2 cap cap2 i jj n m c1 c2 ad A2 ad2 dj rb q2 q3 x0 y0) 13 := by
  intro o x a w ho hB hd hu hs hf hw K hK
  obtain rfl : Gop 13 (by decide) = o := Option.some.inj ((atG 13 (by decide)).symm.trans ho)
  have hg := (wants_some (show (Gop 13 (by decide)).guard = some (11, true) from by kernel_rfl)).1 hw
  have t9 := (hf 9 (by kernel_rfl)).trans hin.s9
  have hrun : (execOp a.eval (Gop 13 (by decide))).run Try.prog w = .ok (.value (.int .i64 i)) w := by
    unfold execOp
    rw [show (Gop 13 (by decide)).op = .move (.tmp 9) from by kernel_rfl]
    simp [go_sem, t9]
  exact wp_val hrun (hK _ _ (hR _) (rfl))

theorem G_17 (hin : InG base w0 a0 N g g2 cap cap2 i jj n m c1 c2 ad A2 ad2 dj rb q2 q3 x0 y0) : Ob Try.prog RG Q BG a0 (SG base N g2) w0 (VG N g g2 cap cap2 i jj n m c1 c2 ad A2 ad2 dj rb q2 q3 x0 y0) 17 := by
  intro o x a w ho hB hd hu hs hf hw K hK
  obtain rfl : Gop 17 (by decide) = o := Option.some.inj ((atG 17 (by decide)).symm.trans ho)
  have hg := (wants_some (show (Gop 17 (by decide)).guard = some (11, true) from by kernel_rfl)).1 hw
  have t80 := hs 16 80 _ (atG 16 (by decide)) (by kernel_rfl) rfl
  have d80 : x 16 = .bool q2 := hd 16 _ (atG 16 (by decide)) rfl ((wants_some (by kernel_rfl)).2 hg)
  rw [d80] at t80
  have hrun : (execOp a.eval (Gop 17 (by decide))).run Try.prog w = .ok (.value (.bool q2)) w := by
    unfold execOp
    rw [show (Gop 17 (by decide)).op = .move (.tmp 80) from by kernel_rfl]
    simp [go_sem, t80]
  exact wp_val hrun (hK _ _ (hR _) (rfl))

theorem G_18 (hin : InG base w0 a0 N g g2 cap cap2 i jj n m c1 c2 ad A2 ad2 dj rb q2 q3 x0 y0) : Ob Try.prog RG Q BG a0 (SG base N g2) w0 (VG N g g2 cap cap2 i jj n m c1 c2 ad A2 ad2 dj rb q2 q3 x0 y0) 18 := by
  intro o x a w ho hB hd hu hs hf hw K hK
  obtain rfl : Gop 18 (by decide) = o := Option.some.inj ((atG 18 (by decide)).symm.trans ho)
  have hg := (wants_some (show (Gop 18 (by decide)).guard = some (17, false) from by kernel_rfl)).1 hw
  have t5 := (hf 5 (by kernel_rfl)).trans hin.s5
  have hrun : (execOp a.eval (Gop 18 (by decide))).run Try.prog w = .ok (.value (.slice (some ad) n c1)) w := by
    unfold execOp
    rw [show (Gop 18 (by decide)).op = .move (.tmp 5) from by kernel_rfl]
    simp [go_sem, t5]
  exact wp_val hrun (hK _ _ (hR _) (rfl))

theorem G_19 (hin : InG base w0 a0 N g g2 cap cap2 i jj n m c1 c2 ad A2 ad2 dj rb q2 q3 x0 y0) : Ob Try.prog RG Q BG a0 (SG base N g2) w0 (VG N g g2 cap cap2 i jj n m c1 c2 ad A2 ad2 dj rb q2 q3 x0 y0) 19 := by
  intro o x a w ho hB hd hu hs hf hw K hK
  obtain rfl : Gop 19 (by decide) = o := Option.some.inj ((atG 19 (by decide)).symm.trans ho)
  have hg := (wants_some (show (Gop 19 (by decide)).guard = some (17, false) from by kernel_rfl)).1 hw
  have t9 := (hf 9 (by kernel_rfl)).trans hin.s9
  have hrun : (execOp a.eval (Gop 19 (by decide))).run Try.prog w = .ok (.value (.int .i64 i)) w := by
    unfold execOp
    rw [show (Gop 19 (by decide)).op = .move (.tmp 9) from by kernel_rfl]
    simp [go_sem, t9]
  exact wp_val hrun (hK _ _ (hR _) (rfl))

theorem G_22 (hin : InG base w0 a0 N g g2 cap cap2 i jj n m c1 c2 ad A2 ad2 dj rb q2 q3 x0 y0) : Ob Try.prog RG Q BG a0 (SG base N g2) w0 (VG N g g2 cap cap2 i jj n m c1 c2 ad A2 ad2 dj rb q2 q3 x0 y0) 22 := by
  intro o x a w ho hB hd hu hs hf hw K hK
  obtain rfl : Gop 22 (by decide) = o := Option.some.inj ((atG 22 (by decide)).symm.trans ho)
  have hg := (wants_some (show (Gop 22 (by decide)).guard = some (17, false) from by kernel_rfl)).1 hw
  have t6 := (hf 6 (by kernel_rfl)).trans hin.s6
  have hrun : (execOp a.eval (Gop 22 (by decide))).run Try.prog w = .ok (.value (.slice A2 m c2)) w := by
    unfold execOp
    rw [show (Gop 22 (by decide)).op = .move (.tmp 6) from by kernel_rfl]
    simp [go_sem, t6]
  exact wp_val hrun (hK _ _ (hR _) (rfl))

theorem G_23 (hin : InG base w0 a0 N g g2 cap cap2 i jj n m c1 c2 ad A2 ad2 dj rb q2 q3 x0 y0) : Ob Try.prog RG Q BG a0 (SG base N g2) w0 (VG N g g2 cap cap2 i jj n m c1 c2 ad A2 ad2 dj rb q2 q3 x0 y0) 23 := by
  intro o x a w ho hB hd hu hs hf hw K hK
  obtain rfl : Gop 23 (by decide) = o := Option.some.inj ((atG 23 (by decide)).symm.trans ho)
  have hg := (wants_some (show (Gop 23 (by decide)).guard = some (17, false) from by kernel_rfl)).1 hw
  have t11 := (hf 11 (by kernel_rfl)).trans hin.s11
  have hrun : (execOp a.eval (Gop 23 (by decide))).run Try.prog w = .ok (.value (.int .i64 jj)) w := by
    unfold execOp
    rw [show (Gop 23 (by decide)).op = .move (.tmp 11) from by kernel_rfl]
    simp [go_sem, t11]
  exact wp_val hrun (hK _ _ (hR _) (rfl))

theorem G_3 (hin : InG base w0 a0 N g g2 cap cap2 i jj n m c1 c2 ad A2 ad2 dj rb q2 q3 x0 y0) : Ob Try.prog RG Q BG a0 (SG base N g2) w0 (VG N g g2 cap cap2 i jj n m c1 c2 ad A2 ad2 dj rb q2 q3 x0 y0) 3 := by
  intro o x a w ho hB hd hu hs hf hw K hK
  obtain rfl : Gop 3 (by decide) = o := Option.some.inj ((atG 3 (by decide)).symm.trans ho)
  have t66 := hs 2 66 _ (atG 2 (by decide)) (by kernel_rfl) rfl
  have d66 : x 2 = .int .i64 jj := hd 2 _ (atG 2 (by decide)) rfl (wants_none (by kernel_rfl))
  rw [d66] at t66
  have hrun : (execOp a.eval (Gop 3 (by decide))).run Try.prog w = .ok (.value (.bool dj)) w := by
    unfold execOp
    rw [show (Gop 3 (by decide)).op = .binOp .gtr 3 (.tmp 66) (.const (.int .i64 0)) 3 from by kernel_rfl]
    simp [go_sem, t66, hin.dj0]
  exact wp_val hrun (hK _ _ (hR _) (rfl))

theorem G_7 (hin : InG base w0 a0 N g g2 cap cap2 i jj n m c1 c2 ad A2 ad2 dj rb q2 q3 x0 y0) : Ob Try.prog RG Q BG a0 (SG base N g2) w0 (VG N g g2 cap cap2 i jj n m c1 c2 ad A2 ad2 dj rb q2 q3 x0 y0) 7 := by
  intro o x a w ho hB hd hu hs hf hw K hK
  obtain rfl : Gop 7 (by decide) = o := Option.some.inj ((atG 7 (by decide)).symm.trans ho)
  have hg := (wants_some (show (Gop 7 (by decide)).guard = some (4, true) from by kernel_rfl)).1 hw
  have t70 := hs 6 70 _ (atG 6 (by decide)) (by kernel_rfl) rfl
  have d70 : x 6 = .int .i64 jj := hd 6 _ (atG 6 (by decide)) rfl ((wants_some (by kernel_rfl)).2 hg)
  rw [d70] at t70
  have hj : 0 < jj := hin.dj1 (by rw [show x 4 = .bool dj from hd 4 _ (atG 4 (by decide)) rfl (wants_none (by kernel_rfl))] at hg; simpa using hg)
  have hl := hin.jl
  have hN := hin.nl
  have e1 : IntKind.i64.wrap ((jj : Int) - 1) = (jj : Int) - 1 := by rw [IntKind.wrap_i64]; omega
  have hrun : (execOp a.eval (Gop 7 (by decide))).run Try.prog w = .ok (.value (.int .i64 ((jj : Int) - 1))) w := by
    unfold execOp
    rw [show (Gop 7 (by decide)).op = .binOp .sub 3 (.tmp 70) (.const (.int .i64 1)) 3 from by kernel_rfl]
    simp [go_sem, t70, e1]
  exact wp_val hrun (hK _ _ (hR _) (rfl))

theorem G_8 (hin : InG base w0 a0 N g g2 cap cap2 i jj n m c1 c2 ad A2 ad2 dj rb q2 q3 x0 y0) : Ob Try.prog RG Q BG a0 (SG base N g2) w0 (VG N g g2 cap cap2 i jj n m c1 c2 ad A2 ad2 dj rb q2 q3 x0 y0) 8 := by
  intro o x a w ho hB hd hu hs hf hw K hK
  obtain rfl : Gop 8 (by decide) = o := Option.some.inj ((atG 8 (by decide)).symm.trans ho)
  have hg := (wants_some (show (Gop 8 (by decide)).guard = some (4, true) from by kernel_rfl)).1 hw
  have t69 := hs 5 69 _ (atG 5 (by decide)) (by kernel_rfl) rfl
  have d69 : x 5 = .slice (some ⟨g, 0, none⟩) N cap := hd 5 _ (atG 5 (by decide)) rfl ((wants_some (by kernel_rfl)).2 hg)
  rw [d69] at t69
  have t71 := hs 7 71 _ (atG 7 (by decide)) (by kernel_rfl) rfl
  have d71 : x 7 = .int .i64 ((jj : Int) - 1) := hd 7 _ (atG 7 (by decide)) rfl ((wants_some (by kernel_rfl)).2 hg)
  rw [d71] at t71
  have hj : 0 < jj := hin.dj1 (by rw [show x 4 = .bool dj from hd 4 _ (atG 4 (by decide)) rfl (wants_none (by kernel_rfl))] at hg; simpa using hg)
  have hl := hin.jl
  have e1 : ((jj : Int) - 1).toNat = jj - 1 := by omega
  have e2 : (0 : Int) ≤ (jj : Int) - 1 := by omega
  have e3 : (jj : Int) - 1 < (N : Int) := by omega
  have e4 : 1 ≤ jj := hj
  have e5 : jj ≤ N := by omega
  have e6 : ¬ (jj : Int) < 1 := by omega
  have hrun : (execOp a.eval (Gop 8 (by decide))).run Try.prog w = .ok (.value (.pointer (some ⟨g, jj - 1, none⟩))) w := by
    unfold execOp
    rw [show (Gop 8 (by decide)).op = .indexAddr 90 (.tmp 69) (.tmp 71) from by kernel_rfl]
    simp [go_sem, t69, t71, e1, e2, e3, e4, e5, e6, add_plain]
  exact wp_val hrun (hK _ _ (hR _) (rfl))

theorem G_9 (hin : InG base w0 a0 N g g2 cap cap2 i jj n m c1 c2 ad A2 ad2 dj rb q2 q3 x0 y0) : Ob Try.prog RG Q BG a0 (SG base N g2) w0 (VG N g g2 cap cap2 i jj n m c1 c2 ad A2 ad2 dj rb q2 q3 x0 y0) 9 := by
  intro o x a w ho hB hd hu hs hf hw K hK
  obtain rfl : Gop 9 (by decide) = o := Option.some.inj ((atG 9 (by decide)).symm.trans ho)
  have hg := (wants_some (show (Gop 9 (by decide)).guard = some (4, true) from by kernel_rfl)).1 hw
  have t72 := hs 8 72 _ (atG 8 (by decide)) (by kernel_rfl) rfl
  have d72 : x 8 = .pointer (some ⟨g, jj - 1, none⟩) := hd 8 _ (atG 8 (by decide)) rfl ((wants_some (by kernel_rfl)).2 hg)
  rw [d72] at t72
  have hj : 0 < jj := hin.dj1 (by rw [show x 4 = .bool dj from hd 4 _ (atG 4 (by decide)) rfl (wants_none (by kernel_rfl))] at hg; simpa using hg)
  have hl := hin.jl
  have hc : w.cell? ⟨g, jj - 1, none⟩ = some (.bool rb) := (hB.1.cell (p := ⟨g, jj - 1, none⟩) hin.gl).trans (hin.row hj)
  have hrun : (execOp a.eval (Gop 9 (by decide))).run Try.prog w = .ok (.value (.bool rb)) w := by
    unfold execOp
    rw [show (Gop 9 (by decide)).op = .load 4 (.tmp 72) from by kernel_rfl]
    simp [go_sem, t72, hc]
  exact wp_val hrun (hK _ _ (hR _) (rfl))

theorem G_10 (hin : InG base w0 a0 N g g2 cap cap2 i jj n m c1 c2 ad A2 ad2 dj rb q2 q3 x0 y0) : Ob Try.prog RG Q BG a0 (SG base N g2) w0 (VG N g g2 cap cap2 i jj n m c1 c2 ad A2 ad2 dj rb q2 q3 x0 y0) 10 := by
  intro o x a w ho hB hd hu hs hf hw K hK
  obtain rfl : Gop 10 (by decide) = o := Option.some.inj ((atG 10 (by decide)).symm.trans ho)
  have t68 := hs 4 68 _ (atG 4 (by decide)) (by kernel_rfl) rfl
  have d68 : x 4 = .bool dj := hd 4 _ (atG 4 (by decide)) rfl (wants_none (by kernel_rfl))
  rw [d68] at t68
  have hv : (execOp a.eval (Gop 10 (by decide))).run Try.prog w = .ok (.value (.bool (dj && rb))) w := by
    rcases Bool.eq_false_or_eq_true (dj) with hc | hc
    · rw [hc] at t68 d68
      have t73 := hs 9 73 _ (atG 9 (by decide)) (by kernel_rfl) rfl
      have d73 : x 9 = .bool rb := hd 9 _ (atG 9 (by decide)) rfl ((wants_some (by kernel_rfl)).2 d68)
      rw [d73] at t73
      unfold execOp
      rw [show (Gop 10 (by decide)).op = .pick (.tmp 68) (.tmp 73) (.const (.bool false)) from by kernel_rfl]
      simp [go_sem, hc, t68, t73]
    · rw [hc] at t68 d68
      unfold execOp
      rw [show (Gop 10 (by decide)).op = .pick (.tmp 68) (.tmp 73) (.const (.bool false)) from by kernel_rfl]
      simp [go_sem, hc, t68]
  exact wp_val hv (hK _ _ (hR _) rfl)

theorem G_14 (hin : InG base w0 a0 N g g2 cap cap2 i jj n m c1 c2 ad A2 ad2 dj rb q2 q3 x0 y0) : Ob Try.prog RG Q BG a0 (SG base N g2) w0 (VG N g g2 cap cap2 i jj n m c1 c2 ad A2 ad2 dj rb q2 q3 x0 y0) 14 := by
  intro o x a w ho hB hd hu hs hf hw K hK
  obtain rfl : Gop 14 (by decide) = o := Option.some.inj ((atG 14 (by decide)).symm.trans ho)
  have hg := (wants_some (show (Gop 14 (by decide)).guard = some (11, true) from by kernel_rfl)).1 hw
  have t76 := hs 12 76 _ (atG 12 (by decide)) (by kernel_rfl) rfl
  have d76 : x 12 = .slice (some ad) n c1 := hd 12 _ (atG 12 (by decide)) rfl ((wants_some (by kernel_rfl)).2 hg)
  rw [d76] at t76
  have t77 := hs 13 77 _ (atG 13 (by decide)) (by kernel_rfl) rfl
  have d77 : x 13 = .int .i64 i := hd 13 _ (atG 13 (by decide)) rfl ((wants_some (by kernel_rfl)).2 hg)
  rw [d77] at t77
  have e2 := hin.il
  have e3 : (i : Int) < (n : Int) := by omega
  have hrun : (execOp a.eval (Gop 14 (by decide))).run Try.prog w = .ok (.value (.pointer (some (ad.add i)))) w := by
    unfold execOp
    rw [show (Gop 14 (by decide)).op = .indexAddr 83 (.tmp 76) (.tmp 77) from by kernel_rfl]
    simp [go_sem, t76, t77, e2, e3]
  exact wp_val hrun (hK _ _ (hR _) (rfl))

theorem G_20 (hin : InG base w0 a0 N g g2 cap cap2 i jj n m c1 c2 ad A2 ad2 dj rb q2 q3 x0 y0) : Ob Try.prog RG Q BG a0 (SG base N g2) w0 (VG N g g2 cap cap2 i jj n m c1 c2 ad A2 ad2 dj rb q2 q3 x0 y0) 20 := by
  intro o x a w ho hB hd hu hs hf hw K hK
  obtain rfl : Gop 20 (by decide) = o := Option.some.inj ((atG 20 (by decide)).symm.trans ho)
  have hg := (wants_some (show (Gop 20 (by decide)).guard = some (17, false) from by kernel_rfl)).1 hw
  have t82 := hs 18 82 _ (atG 18 (by decide)) (by kernel_rfl) rfl
  have d82 : x 18 = .slice (some ad) n c1 := hd 18 _ (atG 18 (by decide)) rfl ((wants_some (by kernel_rfl)).2 hg)
  rw [d82] at t82
  have t83 := hs 19 83 _ (atG 19 (by decide)) (by kernel_rfl) rfl
  have d83 : x 19 = .int .i64 i := hd 19 _ (atG 19 (by decide)) rfl ((wants_some (by kernel_rfl)).2 hg)
  rw [d83] at t83
  have e2 := hin.il
  have e3 : (i : Int) < (n : Int) := by omega
  have hrun : (execOp a.eval (Gop 20 (by decide))).run Try.prog w = .ok (.value (.pointer (some (ad.add i)))) w := by
    unfold execOp
    rw [show (Gop 20 (by decide)).op = .indexAddr 83 (.tmp 82) (.tmp 83) from by kernel_rfl]
    simp [go_sem, t82, t83, e2, e3]
  exact wp_val hrun (hK _ _ (hR _) (rfl))

theorem G_15 (hin : InG base w0 a0 N g g2 cap cap2 i jj n m c1 c2 ad A2 ad2 dj rb q2 q3 x0 y0) : Ob Try.prog RG Q BG a0 (SG base N g2) w0 (VG N g g2 cap cap2 i jj n m c1 c2 ad A2 ad2 dj rb q2 q3 x0 y0) 15 := by
  intro o x a w ho hB hd hu hs hf hw K hK
  obtain rfl : Gop 15 (by decide) = o := Option.some.inj ((atG 15 (by decide)).symm.trans ho)
  have hg := (wants_some (show (Gop 15 (by decide)).guard = some (11, true) from by kernel_rfl)).1 hw
  have t78 := hs 14 78 _ (atG 14 (by decide)) (by kernel_rfl) rfl
  have d78 : x 14 = .pointer (some (ad.add i)) := hd 14 _ (atG 14 (by decide)) rfl ((wants_some (by kernel_rfl)).2 hg)
  rw [d78] at t78
  have hc : w.cell? (ad.add i) = some (.int .i64 x0) := (hB.1.cell (p := ad.add i) hin.pl).trans hin.p
  have hrun : (execOp a.eval (Gop 15 (by decide))).run Try.prog w = .ok (.value (.int .i64 x0)) w := by
    unfold execOp
    rw [show (Gop 15 (by decide)).op = .load 3 (.tmp 78) from by kernel_rfl]
    simp [go_sem, t78, hc]
  exact wp_val hrun (hK _ _ (hR _) (rfl))

theorem G_21 (hin : InG base w0 a0 N g g2 cap cap2 i jj n m c1 c2 ad A2 ad2 dj rb q2 q3 x0 y0) : Ob Try.prog RG Q BG a0 (SG base N g2) w0 (VG N g g2 cap cap2 i jj n m c1 c2 ad A2 ad2 dj rb q2 q3 x0 y0) 21 := by
  intro o x a w ho hB hd hu hs hf hw K hK
  obtain rfl : Gop 21 (by decide) = o := Option.some.inj ((atG 21 (by decide)).symm.trans ho)
  have hg := (wants_some (show (Gop 21 (by decide)).guard = some (17, false) from by kernel_rfl)).1 hw
  have t84 := hs 20 84 _ (atG 20 (by decide)) (by kernel_rfl) rfl
  have d84 : x 20 = .pointer (some (ad.add i)) := hd 20 _ (atG 20 (by decide)) rfl ((wants_some (by kernel_rfl)).2 hg)
  rw [d84] at t84
  have hc : w.cell? (ad.add i) = some (.int .i64 x0) := (hB.1.cell (p := ad.add i) hin.pl).trans hin.p
  have hrun : (execOp a.eval (Gop 21 (by decide))).run Try.prog w = .ok (.value (.int .i64 x0)) w := by
    unfold execOp
    rw [show (Gop 21 (by decide)).op = .load 3 (.tmp 84) from by kernel_rfl]
    simp [go_sem, t84, hc]
  exact wp_val hrun (hK _ _ (hR _) (rfl))

theorem G_16 (hin : InG base w0 a0 N g g2 cap cap2 i jj n m c1 c2 ad A2 ad2 dj rb q2 q3 x0 y0) : Ob Try.prog RG Q BG a0 (SG base N g2) w0 (VG N g g2 cap cap2 i jj n m c1 c2 ad A2 ad2 dj rb q2 q3 x0 y0) 16 := by
  intro o x a w ho hB hd hu hs hf hw K hK
  obtain rfl : Gop 16 (by decide) = o := Option.some.inj ((atG 16 (by decide)).symm.trans ho)
  have hg := (wants_some (show (Gop 16 (by decide)).guard = some (11, true) from by kernel_rfl)).1 hw
  have t79 := hs 15 79 _ (atG 15 (by decide)) (by kernel_rfl) rfl
  have d79 : x 15 = .int .i64 x0 := hd 15 _ (atG 15 (by decide)) rfl ((wants_some (by kernel_rfl)).2 hg)
  rw [d79] at t79
  have hrun : (execOp a.eval (Gop 16 (by decide))).run Try.prog w = .ok (.value (.bool q2)) w := by
    unfold execOp
    rw [show (Gop 16 (by decide)).op = .binOp .eql 3 (.tmp 79) (.const (.int .i64 (-2))) 3 from by kernel_rfl]
    simp [go_sem, t79, hin.q2]
  exact wp_val hrun (hK _ _ (hR _) (rfl))

theorem G_24 (hin : InG base w0 a0 N g g2 cap cap2 i jj n m c1 c2 ad A2 ad2 dj rb q2 q3 x0 y0) : Ob Try.prog RG Q BG a0 (SG base N g2) w0 (VG N g g2 cap cap2 i jj n m c1 c2 ad A2 ad2 dj rb q2 q3 x0 y0) 24 := by
  intro o x a w ho hB hd hu hs hf hw K hK
  obtain rfl : Gop 24 (by decide) = o := Option.some.inj ((atG 24 (by decide)).symm.trans ho)
  have hg := (wants_some (show (Gop 24 (by decide)).guard = some (17, false) from by kernel_rfl)).1 hw
  have t87 := hs 23 87 _ (atG 23 (by decide)) (by kernel_rfl) rfl
  have d87 : x 23 = .int .i64 jj := hd 23 _ (atG 23 (by decide)) rfl ((wants_some (by kernel_rfl)).2 hg)
  rw [d87] at t87
  have h17 : WantsOf (Gop 17 (by decide)) x := Classical.byContradiction fun h => by have := hu 17 _ (atG 17 (by decide)) rfl h; rw [hg] at this; cases this
  have h11 := (wants_some (show (Gop 17 (by decide)).guard = some (11, true) from by kernel_rfl)).1 h17
  have hj : 0 < jj := hin.dj1 (by rw [show x 11 = .bool (dj && rb) from hd 11 _ (atG 11 (by decide)) rfl (wants_none (by kernel_rfl))] at h11; simp at h11; exact h11.1)
  have hl := hin.jl
  have hN := hin.nl
  have e1 : IntKind.i64.wrap ((jj : Int) - 1) = (jj : Int) - 1 := by rw [IntKind.wrap_i64]; omega
  have hrun : (execOp a.eval (Gop 24 (by decide))).run Try.prog w = .ok (.value (.int .i64 ((jj : Int) - 1))) w := by
    unfold execOp
    rw [show (Gop 24 (by decide)).op = .binOp .sub 3 (.tmp 87) (.const (.int .i64 1)) 3 from by kernel_rfl]
    simp [go_sem, t87, e1]
  exact wp_val hrun (hK _ _ (hR _) (rfl))

theorem G_25 (hin : InG base w0 a0 N g g2 cap cap2 i jj n m c1 c2 ad A2 ad2 dj rb q2 q3 x0 y0) : Ob Try.prog RG Q BG a0 (SG base N g2) w0 (VG N g g2 cap cap2 i jj n m c1 c2 ad A2 ad2 dj rb q2 q3 x0 y0) 25 := by
  intro o x a w ho hB hd hu hs hf hw K hK
  obtain rfl : Gop 25 (by decide) = o := Option.some.inj ((atG 25 (by decide)).symm.trans ho)
  have hg := (wants_some (show (Gop 25 (by decide)).guard = some (17, false) from by kernel_rfl)).1 hw
  have t86 := hs 22 86 _ (atG 22 (by decide)) (by kernel_rfl) rfl
  have d86 : x 22 = .slice A2 m c2 := hd 22 _ (atG 22 (by decide)) rfl ((wants_some (by kernel_rfl)).2 hg)
  rw [d86] at t86
  have t88 := hs 24 88 _ (atG 24 (by decide)) (by kernel_rfl) rfl
  have d88 : x 24 = .int .i64 ((jj : Int) - 1) := hd 24 _ (atG 24 (by decide)) rfl ((wants_some (by kernel_rfl)).2 hg)
  rw [d88] at t88
  have h17 : WantsOf (Gop 17 (by decide)) x := Classical.byContradiction fun h => by have := hu 17 _ (atG 17 (by decide)) rfl h; rw [hg] at this; cases this
  have h11 := (wants_some (show (Gop 17 (by decide)).guard = some (11, true) from by kernel_rfl)).1 h17
  have hj : 0 < jj := hin.dj1 (by rw [show x 11 = .bool (dj && rb) from hd 11 _ (atG 11 (by decide)) rfl (wants_none (by kernel_rfl))] at h11; simp at h11; exact h11.1)
  obtain ⟨hA2, hlt⟩ := hin.t0 hj
  rw [hA2] at t86
  have hl := hin.jl
  have e1 : ((jj : Int) - 1).toNat = jj - 1 := by omega
  have e2 : (0 : Int) ≤ (jj : Int) - 1 := by omega
  have e3 : (jj : Int) - 1 < (m : Int) := by omega
  have e4 : 1 ≤ jj := hj
  have e5 : jj ≤ m := by omega
  have e6 : ¬ (jj : Int) < 1 := by omega
  have hrun : (execOp a.eval (Gop 25 (by decide))).run Try.prog w = .ok (.value (.pointer (some (ad2.add (jj - 1))))) w := by
    unfold execOp
    rw [show (Gop 25 (by decide)).op = .indexAddr 83 (.tmp 86) (.tmp 88) from by kernel_rfl]
    simp [go_sem, t86, t88, e1, e2, e3, e4, e5, e6]
  exact wp_val hrun (hK _ _ (hR _) (rfl))

theorem G_26 (hin : InG base w0 a0 N g g2 cap cap2 i jj n m c1 c2 ad A2 ad2 dj rb q2 q3 x0 y0) : Ob Try.prog RG Q BG a0 (SG base N g2) w0 (VG N g g2 cap cap2 i jj n m c1 c2 ad A2 ad2 dj rb q2 q3 x0 y0) 26 := by
  intro o x a w ho hB hd hu hs hf hw K hK
  obtain rfl : Gop 26 (by decide) = o := Option.some.inj ((atG 26 (by decide)).symm.trans ho)
  have hg := (wants_some (show (Gop 26 (by decide)).guard = some (17, false) from by kernel_rfl)).1 hw
  have t89 := hs 25 89 _ (atG 25 (by decide)) (by kernel_rfl) rfl
  have d89 : x 25 = .pointer (some (ad2.add (jj - 1))) := hd 25 _ (atG 25 (by decide)) rfl ((wants_some (by kernel_rfl)).2 hg)
  rw [d89] at t89
  have h17 : WantsOf (Gop 17 (by decide)) x := Classical.byContradiction fun h => by have := hu 17 _ (atG 17 (by decide)) rfl h; rw [hg] at this; cases this
  have h11 := (wants_some (show (Gop 17 (by decide)).guard = some (11, true) from by kernel_rfl)).1 h17
  have hj : 0 < jj := hin.dj1 (by rw [show x 11 = .bool (dj && rb) from hd 11 _ (atG 11 (by decide)) rfl (wants_none (by kernel_rfl))] at h11; simp at h11; exact h11.1)
  have hc : w.cell? (ad2.add (jj - 1)) = some (.int .i64 y0) := (hB.1.cell (p := ad2.add (jj - 1)) (hin.tl hj)).trans (hin.t1 hj)
  have hrun : (execOp a.eval (Gop 26 (by decide))).run Try.prog w = .ok (.value (.int .i64 y0)) w := by
    unfold execOp
    rw [show (Gop 26 (by decide)).op = .load 3 (.tmp 89) from by kernel_rfl]
    simp [go_sem, t89, hc]
  exact wp_val hrun (hK _ _ (hR _) (rfl))

theorem G_27 (hin : InG base w0 a0 N g g2 cap cap2 i jj n m c1 c2 ad A2 ad2 dj rb q2 q3 x0 y0) : Ob Try.prog RG Q BG a0 (SG base N g2) w0 (VG N g g2 cap cap2 i jj n m c1 c2 ad A2 ad2 dj rb q2 q3 x0 y0) 27 := by
  intro o x a w ho hB hd hu hs hf hw K hK
  obtain rfl : Gop 27 (by decide) = o := Option.some.inj ((atG 27 (by decide)).symm.trans ho)
  have hg := (wants_some (show (Gop 27 (by decide)).guard = some (17, false) from by kernel_rfl)).1 hw
  have t85 := hs 21 85 _ (atG 21 (by decide)) (by kernel_rfl) rfl
  have d85 : x 21 = .int .i64 x0 := hd 21 _ (atG 21 (by decide)) rfl ((wants_some (by kernel_rfl)).2 hg)
  rw [d85] at t85
  have t90 := hs 26 90 _ (atG 26 (by decide)) (by kernel_rfl) rfl
  have d90 : x 26 = .int .i64 y0 := hd 26 _ (atG 26 (by decide)) rfl ((wants_some (by kernel_rfl)).2 hg)
  rw [d90] at t90
  have hrun : (execOp a.eval (Gop 27 (by decide))).run Try.prog w = .ok (.value (.bool q3)) w := by
    unfold execOp
    rw [show (Gop 27 (by decide)).op = .binOp .eql 3 (.tmp 85) (.tmp 90) 3 from by kernel_rfl]
    simp [go_sem, t85, t90, hin.q3]
  exact wp_val hrun (hK _ _ (hR _) (rfl))

theorem G_28 (hin : InG base w0 a0 N g g2 cap cap2 i jj n m c1 c2 ad A2 ad2 dj rb q2 q3 x0 y0) : Ob Try.prog RG Q BG a0 (SG base N g2) w0 (VG N g g2 cap cap2 i jj n m c1 c2 ad A2 ad2 dj rb q2 q3 x0 y0) 28 := by
  intro o x a w ho hB hd hu hs hf hw K hK
  obtain rfl : Gop 28 (by decide) = o := Option.some.inj ((atG 28 (by decide)).symm.trans ho)
  have hg := (wants_some (show (Gop 28 (by decide)).guard = some (11, true) from by kernel_rfl)).1 hw
  have t81 := hs 17 81 _ (atG 17 (by decide)) (by kernel_rfl) rfl
  have d81 : x 17 = .bool q2 := hd 17 _ (atG 17 (by decide)) rfl ((wants_some (by kernel_rfl)).2 hg)
  rw [d81] at t81
  have hv : (execOp a.eval (Gop 28 (by decide))).run Try.prog w = .ok (.value (.bool (q2 || q3))) w := by
    rcases Bool.eq_false_or_eq_true (q2) with hc | hc
    · rw [hc] at t81 d81
      unfold execOp
      rw [show (Gop 28 (by decide)).op = .pick (.tmp 81) (.const (.bool true)) (.tmp 91) from by kernel_rfl]
      simp [go_sem, hc, t81]
    · rw [hc] at t81 d81
      have t91 := hs 27 91 _ (atG 27 (by decide)) (by kernel_rfl) rfl
      have d91 : x 27 = .bool q3 := hd 27 _ (atG 27 (by decide)) rfl ((wants_some (by kernel_rfl)).2 d81)
      rw [d91] at t91
      unfold execOp
      rw [show (Gop 28 (by decide)).op = .pick (.tmp 81) (.const (.bool true)) (.tmp 91) from by kernel_rfl]
      simp [go_sem, hc, t81, t91]
  exact wp_val hv (hK _ _ (hR _) rfl)

theorem G_29 (hin : InG base w0 a0 N g g2 cap cap2 i jj n m c1 c2 ad A2 ad2 dj rb q2 q3 x0 y0) : Ob Try.prog RG Q BG a0 (SG base N g2) w0 (VG N g g2 cap cap2 i jj n m c1 c2 ad A2 ad2 dj rb q2 q3 x0 y0) 29 := by
  intro o x a w ho hB hd hu hs hf hw K hK
  obtain rfl : Gop 29 (by decide) = o := Option.some.inj ((atG 29 (by decide)).symm.trans ho)
  have t75 := hs 11 75 _ (atG 11 (by decide)) (by kernel_rfl) rfl
  have d75 : x 11 = .bool (dj && rb) := hd 11 _ (atG 11 (by decide)) rfl (wants_none (by kernel_rfl))
  rw [d75] at t75
  have hv : (execOp a.eval (Gop 29 (by decide))).run Try.prog w = .ok (.value (.bool (dj && rb && (q2 || q3)))) w := by
    rcases Bool.eq_false_or_eq_true ((dj && rb)) with hc | hc
    · rw [hc] at t75 d75
      have t92 := hs 28 92 _ (atG 28 (by decide)) (by kernel_rfl) rfl
      have d92 : x 28 = .bool (q2 || q3) := hd 28 _ (atG 28 (by decide)) rfl ((wants_some (by kernel_rfl)).2 d75)
      rw [d92] at t92
      unfold execOp
      rw [show (Gop 29 (by decide)).op = .pick (.tmp 75) (.tmp 92) (.const (.bool false)) from by kernel_rfl]
      simp [go_sem, hc, t75, t92]
    · rw [hc] at t75 d75
      unfold execOp
      rw [show (Gop 29 (by decide)).op = .pick (.tmp 75) (.tmp 92) (.const (.bool false)) from by kernel_rfl]
      simp [go_sem, hc, t75]
  exact wp_val hv (hK _ _ (hR _) rfl)

theorem G_30 (hin : InG base w0 a0 N g g2 cap cap2 i jj n m c1 c2 ad A2 ad2 dj rb q2 q3 x0 y0) : Ob Try.prog RG Q BG a0 (SG base N g2) w0 (VG N g g2 cap cap2 i jj n m c1 c2 ad A2 ad2 dj rb q2 q3 x0 y0) 30 := by
  intro o x a w ho hB hd hu hs hf hw K hK
  obtain rfl : Gop 30 (by decide) = o := Option.some.inj ((atG 30 (by decide)).symm.trans ho)
  have t64 := hs 0 64 _ (atG 0 (by decide)) (by kernel_rfl) rfl
  have d64 : x 0 = .slice (some ⟨g2, 0, none⟩) N cap2 := hd 0 _ (atG 0 (by decide)) rfl (wants_none (by kernel_rfl))
  rw [d64] at t64
  have t65 := hs 1 65 _ (atG 1 (by decide)) (by kernel_rfl) rfl
  have d65 : x 1 = .int .i64 jj := hd 1 _ (atG 1 (by decide)) rfl (wants_none (by kernel_rfl))
  rw [d65] at t65
  have hl := hin.jl
  have e3 : (jj : Int) < (N : Int) := by omega
  have hrun : (execOp a.eval (Gop 30 (by decide))).run Try.prog w = .ok (.value (.pointer (some ⟨g2, jj, none⟩))) w := by
    unfold execOp
    rw [show (Gop 30 (by decide)).op = .indexAddr 90 (.tmp 64) (.tmp 65) from by kernel_rfl]
    simp [go_sem, t64, t65, hl, e3, add_plain]
  exact wp_val hrun (hK _ _ (hR _) (rfl))

theorem G_31 (hin : InG base w0 a0 N g g2 cap cap2 i jj n m c1 c2 ad A2 ad2 dj rb q2 q3 x0 y0) : Ob Try.prog RG Q BG a0 (SG base N g2) w0 (VG N g g2 cap cap2 i jj n m c1 c2 ad A2 ad2 dj rb q2 q3 x0 y0) 31 := by
  intro o x a w ho hB hd hu hs hf hw K hK
  obtain rfl : Gop 31 (by decide) = o := Option.some.inj ((atG 31 (by decide)).symm.trans ho)
  have t94 := hs 30 94 _ (atG 30 (by decide)) (by kernel_rfl) rfl
  have d94 : x 30 = .pointer (some ⟨g2, jj, none⟩) := hd 30 _ (atG 30 (by decide)) rfl (wants_none (by kernel_rfl))
  rw [d94] at t94
  have t93 := hs 29 93 _ (atG 29 (by decide)) (by kernel_rfl) rfl
  have d93 : x 29 = .bool (dj && rb && (q2 || q3)) := hd 29 _ (atG 29 (by decide)) rfl (wants_none (by kernel_rfl))
  rw [d93] at t93
  have hb := hB.2 hin.nxt
  obtain ⟨nb, hnb⟩ := hb.cell jj hin.jl
  have hfr := hb.free jj hin.jl
  have hrun : (execOp a.eval (Gop 31 (by decide))).run Try.prog w = .ok .skip (w.setCell ⟨g2, jj, none⟩ (.bool (dj && rb && (q2 || q3)))) := by
    unfold execOp
    rw [show (Gop 31 (by decide)).op = .store 4 (.tmp 94) (.tmp 93) from by kernel_rfl]
    simp [go_sem, t94, t93, hnb, hfr]
  exact wp_skip hrun (hK _ _ ⟨(Below.refl _ _).setCell hb.ge _, fun _ => hb.put jj hin.jl _⟩ trivial)
theorem G_all (hin : InG base w0 a0 N g g2 cap cap2 i jj n m c1 c2 ad A2 ad2 dj rb q2 q3 x0 y0) : ∀ j, j < 32 → Ob Try.prog RG Q BG a0 (SG base N g2) w0 (VG N g g2 cap cap2 i jj n m c1 c2 ad A2 ad2 dj rb q2 q3 x0 y0) j
  | 0, _ => G_0 hin
  | 1, _ => G_1 hin
  | 2, _ => G_2 hin
  | 3, _ => G_3 hin
  | 4, _ => G_4 hin
  | 5, _ => G_5 hin
  | 6, _ => G_6 hin
  | 7, _ => G_7 hin
  | 8, _ => G_8 hin
  | 9, _ => G_9 hin
  | 10, _ => G_10 hin
  | 11, _ => G_11 hin
  | 12, _ => G_12 hin
  | 13, _ => G_13 hin
  | 14, _ => G_14 hin
  | 15, _ => G_15 hin
  | 16, _ => G_16 hin
  | 17, _ => G_17 hin
  | 18, _ => G_18 hin
  | 19, _ => G_19 hin
  | 20, _ => G_20 hin
  | 21, _ => G_21 hin
  | 22, _ => G_22 hin
  | 23, _ => G_23 hin
  | 24, _ => G_24 hin
  | 25, _ => G_25 hin
  | 26, _ => G_26 hin
  | 27, _ => G_27 hin
  | 28, _ => G_28 hin
  | 29, _ => G_29 hin
  | 30, _ => G_30 hin
  | 31, _ => G_31 hin
  | k + 32, h => by omega
theorem stableG : ∀ j v w w', SG base N g2 w w' → VG N g g2 cap cap2 i jj n m c1 c2 ad A2 ad2 dj rb q2 q3 x0 y0 j v w → VG N g g2 cap cap2 i jj n m c1 c2 ad A2 ad2 dj rb q2 q3 x0 y0 j v w' := by
  intro j v w w' _ h
  match j, h with
  | 0, h => exact h
  | 1, h => exact h
  | 2, h => exact h
  | 3, h => exact h
  | 4, h => exact h
  | 5, h => exact h
  | 6, h => exact h
  | 7, h => exact h
  | 8, h => exact h
  | 9, h => exact h
  | 10, h => exact h
  | 11, h => exact h
  | 12, h => exact h
  | 13, h => exact h
  | 14, h => exact h
  | 15, h => exact h
  | 16, h => exact h
  | 17, h => exact h
  | 18, h => exact h
  | 19, h => exact h
  | 20, h => exact h
  | 21, h => exact h
  | 22, h => exact h
  | 23, h => exact h
  | 24, h => exact h
  | 25, h => exact h
  | 26, h => exact h
  | 27, h => exact h
  | 28, h => exact h
  | 29, h => exact h
  | 30, h => exact h
  | 31, h => exact h
  | k + 32, h => exact trivial
/-- THE REGION: a truth is stored in the row, nothing else has turned. -/
theorem region14 {id : Nat} {ops : Array Oper} (hops : ops = RG) (hsz : 95 ≤ a0.tmps.size) (hin : InG base w0 a0 N g g2 cap cap2 i jj n m c1 c2 ad A2 ad2 dj rb q2 q3 x0 y0)
    (hQ : ∀ (x : Nat → Value) w', Below base w0 w' → BRow w' base g2 N → Q .normal (fullOf x a0 ([(0, 64), (1, 65), (2, 66), (3, 67), (4, 68), (5, 69), (6, 70), (7, 71), (8, 72), (9, 73), (10, 74), (11, 75), (12, 76), (13, 77), (14, 78), (15, 79), (16, 80), (17, 81), (18, 82), (19, 83), (20, 84), (21, 85), (22, 86), (23, 87), (24, 88), (25, 89), (26, 90), (27, 91), (28, 92), (29, 93), (30, 94)] : List (Nat × Tmp))) w') : (Code.region id ops true).wp Try.prog Q a0 w0 := by
  subst hops
  refine region_typed (SG base N g2) BG (VG N g g2 cap cap2 i jj n m c1 c2 ad A2 ad2 dj rb q2 q3 x0 y0) (by kernel_rfl) sizeG waitsG baseG guardsG oneG twoG ?_ hR hT ⟨(Below.refl _ _).drew, fun h => h.drew⟩ stableG (G_all hin) ?_
  · rw [dstsG]
    intro e he
    have h2 := List.all_eq_true.1 (show (([(0, 64), (1, 65), (2, 66), (3, 67), (4, 68), (5, 69), (6, 70), (7, 71), (8, 72), (9, 73), (10, 74), (11, 75), (12, 76), (13, 77), (14, 78), (15, 79), (16, 80), (17, 81), (18, 82), (19, 83), (20, 84), (21, 85), (22, 86), (23, 87), (24, 88), (25, 89), (26, 90), (27, 91), (28, 92), (29, 93), (30, 94)] : List (Nat × Tmp)).all fun e : Nat × Tmp => decide (e.2 < 95)) = true from by decide) e he
    exact Nat.lt_of_lt_of_le (of_decide_eq_true h2) hsz
  · intro x w' hS _
    rw [dstsG]
    exact hQ x w' hS.1 (hS.2 hin.nxt)
end
end Go.Proofs.Ytmckgcooehdbaaa
