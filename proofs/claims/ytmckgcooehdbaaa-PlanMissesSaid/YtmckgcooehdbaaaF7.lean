/- A region of cambiumref16.May that draws its order, each operation shown once (XT0). No condition beyond those that each theorem names. -/
import Derived.Test.YtmckgcooehdbaaaF6
set_option linter.unusedVariables false
set_option linter.unusedSimpArgs false
set_option linter.unnecessarySimpa false
namespace Go.Proofs.Ytmckgcooehdbaaa
open Go.RowKit Go.Proofs.YtmckgcooehdbaaaW.PrintWords Go.Proofs.YtmckgcooehdbaaaW.PrintLast

/-- Nothing that was there has turned. -/
def SM (w w' : World) : Prop := Below w.heap.size w w'
noncomputable def RM : Array Oper := opsOf Try.f19 8
def BM : List Nat := [0, 1, 0, 7, 15, 31, 63, 127, 255, 511, 1023, 511, 4095, 8191, 16383, 32767, 65535, 131071, 262143, 524287, 1048575, 2097151, 4194303, 8388607, 4194303, 20971519, 67108863, 134217727, 268435455, 536870911, 4194303, 1077936127, 4194303, 7520387071, 16110321663, 33290190847, 67649929215, 137438953471, 274877906943, 549755813887, 1099511627775]
theorem waitsM : waitsOk (rtab .any RM).2 BM = true := by kernel_rfl
theorem baseM : baseOk (rtab .any RM).2 (List.range 41) = true := by kernel_rfl
theorem guardsM : guardsOk RM BM = true := by kernel_rfl
theorem sizeM : RM.size = 41 := by kernel_rfl
theorem oneM : decide (((dstsOf RM).map (·.1)).Nodup) = true := by kernel_rfl
theorem twoM : decide (((dstsOf RM).map (·.2)).Nodup) = true := by kernel_rfl
theorem dstsM : dstsOf RM = [(0, 78), (1, 79), (2, 80), (3, 81), (4, 82), (5, 83), (6, 84), (7, 85), (8, 86), (9, 87), (10, 88), (11, 89), (12, 90), (13, 91), (14, 92), (15, 93), (16, 94), (17, 95), (18, 96), (19, 97), (20, 98), (21, 99), (22, 100), (23, 101), (24, 102), (25, 103), (26, 104), (27, 105), (28, 106), (29, 107), (30, 108), (31, 109), (32, 110), (33, 111), (34, 112), (35, 113), (36, 114), (37, 115), (38, 116), (39, 117), (40, 118)] := by kernel_rfl
theorem atM (i : Nat) (h : i < 41) : RM[i]? = some (RM[i]'(sizeM ▸ h)) := Array.getElem?_eq_getElem _
noncomputable abbrev Mop (i : Nat) (h : i < 41) : Oper := RM[i]'(sizeM ▸ h)
def VM (g i n c : Nat) (ad : Addr) (u p : Attr) (q0 : Bool) : Nat → Value → World → Prop
  | 0, v, w => v = .pointer (some ⟨g, 8, none⟩)
  | 1, v, w => v = .slice (some ad) n c
  | 2, v, w => v = .int .i64 i
  | 3, v, w => v = .pointer (some (ad.add (i * 5)))
  | 4, v, w => v = .pointer (some (ad.add (i * 5)))
  | 5, v, w => v = .string u.name
  | 6, v, w => ∃ b : Bool, v = .bool b ∧ (b = true → u.name.size ≤ 32)
  | 7, v, w => ∃ b : Bool, v = .bool b ∧ (b = false → u.name.size ≤ 32)
  | 8, v, w => ∃ b : Bool, v = .bool b ∧ (b = false → u.name.size ≤ 32)
  | 9, v, w => v = .pointer (some ⟨g, 8, none⟩)
  | 10, v, w => v = .slice (some ad) n c
  | 11, v, w => v = .int .i64 i
  | 12, v, w => v = .pointer (some (ad.add (i * 5)))
  | 13, v, w => v = .pointer (some ⟨(ad.add (i * 5)).block, (ad.add (i * 5)).off + 1, none⟩)
  | 14, v, w => v = .agg #[.int .i64 u.kind, .string u.text, .int .i64 u.num, .bool u.tru]
  | 15, v, w => ∃ b : Bool, v = .bool b ∧ (b = true → u.text.size ≤ 200)
  | 16, v, w => ∃ b : Bool, v = .bool b ∧ (b = false → u.text.size ≤ 200)
  | 17, v, w => ∃ b : Bool, v = .bool b ∧ (b = false → (u.name.size ≤ 32 ∧ u.text.size ≤ 200))
  | 18, v, w => ∃ b : Bool, v = .bool b ∧ (b = false → (u.name.size ≤ 32 ∧ u.text.size ≤ 200))
  | 19, v, w => v = .int .i64 i
  | 20, v, w => v = .bool q0
  | 21, v, w => v = .bool q0
  | 22, v, w => v = .pointer (some ⟨g, 8, none⟩)
  | 23, v, w => v = .slice (some ad) n c
  | 24, v, w => v = .int .i64 i
  | 25, v, w => v = .int .i64 ((i : Int) - 1)
  | 26, v, w => v = .pointer (some (ad.add ((i - 1) * 5)))
  | 27, v, w => v = .pointer (some (ad.add ((i - 1) * 5)))
  | 28, v, w => v = .string p.name
  | 29, v, w => ∃ (A : Option Addr) (n k : Nat) (xs : List Int), v = .slice A n k ∧ ReadsInt w .u8 A n xs
  | 30, v, w => v = .pointer (some ⟨g, 8, none⟩)
  | 31, v, w => v = .slice (some ad) n c
  | 32, v, w => v = .int .i64 i
  | 33, v, w => v = .pointer (some (ad.add (i * 5)))
  | 34, v, w => v = .pointer (some (ad.add (i * 5)))
  | 35, v, w => v = .string u.name
  | 36, v, w => ∃ (A : Option Addr) (n k : Nat) (xs : List Int), v = .slice A n k ∧ ReadsInt w .u8 A n xs
  | 37, v, w => ∃ b : Bool, v = .bool b
  | 38, v, w => ∃ b : Bool, v = .bool b
  | 39, v, w => ∃ b : Bool, v = .bool b
  | 40, v, w => ∃ b : Bool, v = .bool b ∧ (b = false → (u.name.size ≤ 32 ∧ u.text.size ≤ 200))
  | _, _, _ => True
structure InM (w0 : World) (a0 : Act) (s : Span) (g i n c : Nat) (ad : Addr) (u p : Attr) (q0 : Bool) : Prop where
  s1 : a0.tmps[1]? = some (.pointer (some ⟨g, 0, none⟩))
  s3 : a0.tmps[3]? = some (.int .i64 i)
  box : SBox w0 g s
  a1 : Value.slice s.A1 s.n1 s.c1 = .slice (some ad) n c
  il : i < n
  nl : n ≤ 1000
  cur : AttrAt w0 (ad.add (i * 5)) u
  prv : 0 < i → AttrAt w0 (ad.add ((i - 1) * 5)) p ∧ p.name.size ≤ 32
  dj0 : decide (0 < i) = q0
  dj1 : q0 = true → 0 < i
section
variable {Q : Exit → Act → World → Prop} {w0 : World} {a0 : Act} {s : Span} {g i n c : Nat} {ad : Addr} {u p : Attr} {q0 : Bool}
/-- A value that isn't undef: its operation was carried out. -/
theorem was_on {j k : Nat} {o : Oper} {x : Nat → Value} {b : Bool} (hu : ∀ i oi, RM[i]? = some oi → (BM.getD j 0).testBit i = true → ¬ WantsOf oi x → x i = undef) (ho : RM[k]? = some o) (hk : (BM.getD j 0).testBit k = true) (hg : x k = .bool b) : WantsOf o x :=
  Classical.byContradiction fun h => by
    have := hu k o ho hk h
    rw [hg] at this
    cases this
theorem pos_M (hin : InM w0 a0 s g i n c ad u p q0) (x : Nat → Value) (w : World) {B : List Nat} {j : Nat} (hB : B = BM) (h21 : (BM.getD j 0).testBit 21 = true) (h18 : (BM.getD j 0).testBit 18 = true)
    (hd : ∀ i' oi, RM[i']? = some oi → (BM.getD j 0).testBit i' = true → WantsOf oi x → VM g i n c ad u p q0 i' (x i') w) (hu : ∀ i oi, RM[i]? = some oi → (BM.getD j 0).testBit i = true → ¬ WantsOf oi x → x i = undef) (hg : x 21 = .bool true) : 0 < i := by
  have h := hd 21 _ (atM 21 (by decide)) h21 (was_on hu (atM 21 (by decide)) h21 hg)
  have h' : x 21 = .bool q0 := h
  rw [hg] at h'
  exact hin.dj1 (by simpa using h'.symm)
theorem cur_M (hin : InM w0 a0 s g i n c ad u p q0) (x : Nat → Value) (w : World) {B : List Nat} {j : Nat} (hB : B = BM) (h21 : (BM.getD j 0).testBit 21 = true) (h18 : (BM.getD j 0).testBit 18 = true)
    (hd : ∀ i' oi, RM[i']? = some oi → (BM.getD j 0).testBit i' = true → WantsOf oi x → VM g i n c ad u p q0 i' (x i') w) (hu : ∀ i oi, RM[i]? = some oi → (BM.getD j 0).testBit i = true → ¬ WantsOf oi x → x i = undef) (hg : x 21 = .bool true) : u.name.size ≤ 32 := by
  have h21' := (wants_some (show (Mop 21 (by decide)).guard = some (18, false) from by kernel_rfl)).1 (was_on hu (atM 21 (by decide)) h21 hg)
  have h : ∃ b : Bool, x 18 = .bool b ∧ (b = false → (u.name.size ≤ 32 ∧ u.text.size ≤ 200)) := hd 18 _ (atM 18 (by decide)) h18 (wants_none (by kernel_rfl))
  obtain ⟨b, e, hb⟩ := h
  rw [h21'] at e
  exact (hb (by simpa using e.symm)).1
theorem hRM (w : World) : SM w w := Below.refl _ _
theorem hTM (a b c : World) (h1 : SM a b) (h2 : SM b c) : SM a c := below_then h1 h1.size h2
theorem M_0 (hin : InM w0 a0 s g i n c ad u p q0) : Ob Try.prog RM Q BM a0 SM w0 (VM g i n c ad u p q0) 0 := by
  intro o x a w ho hB hd hu hs hf hw K hK
  obtain rfl : Mop 0 (by decide) = o := Option.some.inj ((atM 0 (by decide)).symm.trans ho)
  have t1 := (hf 1 (by kernel_rfl)).trans hin.s1
  have hrun : (execOp a.eval (Mop 0 (by decide))).run Try.prog w = .ok (.value (.pointer (some ⟨g, 8, none⟩))) w := by
    unfold execOp
    rw [show (Mop 0 (by decide)).op = .fieldAddr 31 (.tmp 1) 8 from by kernel_rfl]
    simp [go_sem, t1]
  exact wp_val hrun (hK _ _ (hRM _) (rfl))

theorem M_9 (hin : InM w0 a0 s g i n c ad u p q0) : Ob Try.prog RM Q BM a0 SM w0 (VM g i n c ad u p q0) 9 := by
  intro o x a w ho hB hd hu hs hf hw K hK
  obtain rfl : Mop 9 (by decide) = o := Option.some.inj ((atM 9 (by decide)).symm.trans ho)
  have hg := (wants_some (show (Mop 9 (by decide)).guard = some (8, false) from by kernel_rfl)).1 hw
  have t1 := (hf 1 (by kernel_rfl)).trans hin.s1
  have hrun : (execOp a.eval (Mop 9 (by decide))).run Try.prog w = .ok (.value (.pointer (some ⟨g, 8, none⟩))) w := by
    unfold execOp
    rw [show (Mop 9 (by decide)).op = .fieldAddr 31 (.tmp 1) 8 from by kernel_rfl]
    simp [go_sem, t1]
  exact wp_val hrun (hK _ _ (hRM _) (rfl))

theorem M_22 (hin : InM w0 a0 s g i n c ad u p q0) : Ob Try.prog RM Q BM a0 SM w0 (VM g i n c ad u p q0) 22 := by
  intro o x a w ho hB hd hu hs hf hw K hK
  obtain rfl : Mop 22 (by decide) = o := Option.some.inj ((atM 22 (by decide)).symm.trans ho)
  have hg := (wants_some (show (Mop 22 (by decide)).guard = some (21, true) from by kernel_rfl)).1 hw
  have t1 := (hf 1 (by kernel_rfl)).trans hin.s1
  have hrun : (execOp a.eval (Mop 22 (by decide))).run Try.prog w = .ok (.value (.pointer (some ⟨g, 8, none⟩))) w := by
    unfold execOp
    rw [show (Mop 22 (by decide)).op = .fieldAddr 31 (.tmp 1) 8 from by kernel_rfl]
    simp [go_sem, t1]
  exact wp_val hrun (hK _ _ (hRM _) (rfl))

theorem M_30 (hin : InM w0 a0 s g i n c ad u p q0) : Ob Try.prog RM Q BM a0 SM w0 (VM g i n c ad u p q0) 30 := by
  intro o x a w ho hB hd hu hs hf hw K hK
  obtain rfl : Mop 30 (by decide) = o := Option.some.inj ((atM 30 (by decide)).symm.trans ho)
  have hg := (wants_some (show (Mop 30 (by decide)).guard = some (21, true) from by kernel_rfl)).1 hw
  have t1 := (hf 1 (by kernel_rfl)).trans hin.s1
  have hrun : (execOp a.eval (Mop 30 (by decide))).run Try.prog w = .ok (.value (.pointer (some ⟨g, 8, none⟩))) w := by
    unfold execOp
    rw [show (Mop 30 (by decide)).op = .fieldAddr 31 (.tmp 1) 8 from by kernel_rfl]
    simp [go_sem, t1]
  exact wp_val hrun (hK _ _ (hRM _) (rfl))

theorem M_1 (hin : InM w0 a0 s g i n c ad u p q0) : Ob Try.prog RM Q BM a0 SM w0 (VM g i n c ad u p q0) 1 := by
  intro o x a w ho hB hd hu hs hf hw K hK
  obtain rfl : Mop 1 (by decide) = o := Option.some.inj ((atM 1 (by decide)).symm.trans ho)
  have t78 := hs 0 78 _ (atM 0 (by decide)) (by kernel_rfl) rfl
  have d78 : x 0 = .pointer (some ⟨g, 8, none⟩) := hd 0 _ (atM 0 (by decide)) rfl (wants_none (by kernel_rfl))
  rw [d78] at t78
  have hc : w.cell? ⟨g, 8, none⟩ = some (.slice (some ad) n c) := hin.a1 ▸ (hin.box.below hB).cells.2.2.2.2.2.2.2.2.1
  have hrun : (execOp a.eval (Mop 1 (by decide))).run Try.prog w = .ok (.value (.slice (some ad) n c)) w := by
    unfold execOp
    rw [show (Mop 1 (by decide)).op = .load 27 (.tmp 78) from by kernel_rfl]
    simp [go_sem, t78, hc]
  exact wp_val hrun (hK _ _ (hRM _) (rfl))

theorem M_10 (hin : InM w0 a0 s g i n c ad u p q0) : Ob Try.prog RM Q BM a0 SM w0 (VM g i n c ad u p q0) 10 := by
  intro o x a w ho hB hd hu hs hf hw K hK
  obtain rfl : Mop 10 (by decide) = o := Option.some.inj ((atM 10 (by decide)).symm.trans ho)
  have hg := (wants_some (show (Mop 10 (by decide)).guard = some (8, false) from by kernel_rfl)).1 hw
  have t87 := hs 9 87 _ (atM 9 (by decide)) (by kernel_rfl) rfl
  have d87 : x 9 = .pointer (some ⟨g, 8, none⟩) := hd 9 _ (atM 9 (by decide)) rfl ((wants_some (by kernel_rfl)).2 hg)
  rw [d87] at t87
  have hc : w.cell? ⟨g, 8, none⟩ = some (.slice (some ad) n c) := hin.a1 ▸ (hin.box.below hB).cells.2.2.2.2.2.2.2.2.1
  have hrun : (execOp a.eval (Mop 10 (by decide))).run Try.prog w = .ok (.value (.slice (some ad) n c)) w := by
    unfold execOp
    rw [show (Mop 10 (by decide)).op = .load 27 (.tmp 87) from by kernel_rfl]
    simp [go_sem, t87, hc]
  exact wp_val hrun (hK _ _ (hRM _) (rfl))

theorem M_23 (hin : InM w0 a0 s g i n c ad u p q0) : Ob Try.prog RM Q BM a0 SM w0 (VM g i n c ad u p q0) 23 := by
  intro o x a w ho hB hd hu hs hf hw K hK
  obtain rfl : Mop 23 (by decide) = o := Option.some.inj ((atM 23 (by decide)).symm.trans ho)
  have hg := (wants_some (show (Mop 23 (by decide)).guard = some (21, true) from by kernel_rfl)).1 hw
  have t100 := hs 22 100 _ (atM 22 (by decide)) (by kernel_rfl) rfl
  have d100 : x 22 = .pointer (some ⟨g, 8, none⟩) := hd 22 _ (atM 22 (by decide)) rfl ((wants_some (by kernel_rfl)).2 hg)
  rw [d100] at t100
  have hc : w.cell? ⟨g, 8, none⟩ = some (.slice (some ad) n c) := hin.a1 ▸ (hin.box.below hB).cells.2.2.2.2.2.2.2.2.1
  have hrun : (execOp a.eval (Mop 23 (by decide))).run Try.prog w = .ok (.value (.slice (some ad) n c)) w := by
    unfold execOp
    rw [show (Mop 23 (by decide)).op = .load 27 (.tmp 100) from by kernel_rfl]
    simp [go_sem, t100, hc]
  exact wp_val hrun (hK _ _ (hRM _) (rfl))

theorem M_31 (hin : InM w0 a0 s g i n c ad u p q0) : Ob Try.prog RM Q BM a0 SM w0 (VM g i n c ad u p q0) 31 := by
  intro o x a w ho hB hd hu hs hf hw K hK
  obtain rfl : Mop 31 (by decide) = o := Option.some.inj ((atM 31 (by decide)).symm.trans ho)
  have hg := (wants_some (show (Mop 31 (by decide)).guard = some (21, true) from by kernel_rfl)).1 hw
  have t108 := hs 30 108 _ (atM 30 (by decide)) (by kernel_rfl) rfl
  have d108 : x 30 = .pointer (some ⟨g, 8, none⟩) := hd 30 _ (atM 30 (by decide)) rfl ((wants_some (by kernel_rfl)).2 hg)
  rw [d108] at t108
  have hc : w.cell? ⟨g, 8, none⟩ = some (.slice (some ad) n c) := hin.a1 ▸ (hin.box.below hB).cells.2.2.2.2.2.2.2.2.1
  have hrun : (execOp a.eval (Mop 31 (by decide))).run Try.prog w = .ok (.value (.slice (some ad) n c)) w := by
    unfold execOp
    rw [show (Mop 31 (by decide)).op = .load 27 (.tmp 108) from by kernel_rfl]
    simp [go_sem, t108, hc]
  exact wp_val hrun (hK _ _ (hRM _) (rfl))

theorem M_2 (hin : InM w0 a0 s g i n c ad u p q0) : Ob Try.prog RM Q BM a0 SM w0 (VM g i n c ad u p q0) 2 := by
  intro o x a w ho hB hd hu hs hf hw K hK
  obtain rfl : Mop 2 (by decide) = o := Option.some.inj ((atM 2 (by decide)).symm.trans ho)
  have t3 := (hf 3 (by kernel_rfl)).trans hin.s3
  have hrun : (execOp a.eval (Mop 2 (by decide))).run Try.prog w = .ok (.value (.int .i64 i)) w := by
    unfold execOp
    rw [show (Mop 2 (by decide)).op = .move (.tmp 3) from by kernel_rfl]
    simp [go_sem, t3]
  exact wp_val hrun (hK _ _ (hRM _) (rfl))

theorem M_11 (hin : InM w0 a0 s g i n c ad u p q0) : Ob Try.prog RM Q BM a0 SM w0 (VM g i n c ad u p q0) 11 := by
  intro o x a w ho hB hd hu hs hf hw K hK
  obtain rfl : Mop 11 (by decide) = o := Option.some.inj ((atM 11 (by decide)).symm.trans ho)
  have hg := (wants_some (show (Mop 11 (by decide)).guard = some (8, false) from by kernel_rfl)).1 hw
  have t3 := (hf 3 (by kernel_rfl)).trans hin.s3
  have hrun : (execOp a.eval (Mop 11 (by decide))).run Try.prog w = .ok (.value (.int .i64 i)) w := by
    unfold execOp
    rw [show (Mop 11 (by decide)).op = .move (.tmp 3) from by kernel_rfl]
    simp [go_sem, t3]
  exact wp_val hrun (hK _ _ (hRM _) (rfl))

theorem M_19 (hin : InM w0 a0 s g i n c ad u p q0) : Ob Try.prog RM Q BM a0 SM w0 (VM g i n c ad u p q0) 19 := by
  intro o x a w ho hB hd hu hs hf hw K hK
  obtain rfl : Mop 19 (by decide) = o := Option.some.inj ((atM 19 (by decide)).symm.trans ho)
  have hg := (wants_some (show (Mop 19 (by decide)).guard = some (18, false) from by kernel_rfl)).1 hw
  have t3 := (hf 3 (by kernel_rfl)).trans hin.s3
  have hrun : (execOp a.eval (Mop 19 (by decide))).run Try.prog w = .ok (.value (.int .i64 i)) w := by
    unfold execOp
    rw [show (Mop 19 (by decide)).op = .move (.tmp 3) from by kernel_rfl]
    simp [go_sem, t3]
  exact wp_val hrun (hK _ _ (hRM _) (rfl))

theorem M_24 (hin : InM w0 a0 s g i n c ad u p q0) : Ob Try.prog RM Q BM a0 SM w0 (VM g i n c ad u p q0) 24 := by
  intro o x a w ho hB hd hu hs hf hw K hK
  obtain rfl : Mop 24 (by decide) = o := Option.some.inj ((atM 24 (by decide)).symm.trans ho)
  have hg := (wants_some (show (Mop 24 (by decide)).guard = some (21, true) from by kernel_rfl)).1 hw
  have t3 := (hf 3 (by kernel_rfl)).trans hin.s3
  have hrun : (execOp a.eval (Mop 24 (by decide))).run Try.prog w = .ok (.value (.int .i64 i)) w := by
    unfold execOp
    rw [show (Mop 24 (by decide)).op = .move (.tmp 3) from by kernel_rfl]
    simp [go_sem, t3]
  exact wp_val hrun (hK _ _ (hRM _) (rfl))

theorem M_32 (hin : InM w0 a0 s g i n c ad u p q0) : Ob Try.prog RM Q BM a0 SM w0 (VM g i n c ad u p q0) 32 := by
  intro o x a w ho hB hd hu hs hf hw K hK
  obtain rfl : Mop 32 (by decide) = o := Option.some.inj ((atM 32 (by decide)).symm.trans ho)
  have hg := (wants_some (show (Mop 32 (by decide)).guard = some (21, true) from by kernel_rfl)).1 hw
  have t3 := (hf 3 (by kernel_rfl)).trans hin.s3
  have hrun : (execOp a.eval (Mop 32 (by decide))).run Try.prog w = .ok (.value (.int .i64 i)) w := by
    unfold execOp
    rw [show (Mop 32 (by decide)).op = .move (.tmp 3) from by kernel_rfl]
    simp [go_sem, t3]
  exact wp_val hrun (hK _ _ (hRM _) (rfl))

theorem M_3 (hin : InM w0 a0 s g i n c ad u p q0) : Ob Try.prog RM Q BM a0 SM w0 (VM g i n c ad u p q0) 3 := by
  intro o x a w ho hB hd hu hs hf hw K hK
  obtain rfl : Mop 3 (by decide) = o := Option.some.inj ((atM 3 (by decide)).symm.trans ho)
  have t79 := hs 1 79 _ (atM 1 (by decide)) (by kernel_rfl) rfl
  have d79 : x 1 = .slice (some ad) n c := hd 1 _ (atM 1 (by decide)) rfl (wants_none (by kernel_rfl))
  rw [d79] at t79
  have t80 := hs 2 80 _ (atM 2 (by decide)) (by kernel_rfl) rfl
  have d80 : x 2 = .int .i64 i := hd 2 _ (atM 2 (by decide)) rfl (wants_none (by kernel_rfl))
  rw [d80] at t80
  have e2 := hin.il
  have e3 : (i : Int) < (n : Int) := by omega
  have hrun : (execOp a.eval (Mop 3 (by decide))).run Try.prog w = .ok (.value (.pointer (some (ad.add (i * 5))))) w := by
    unfold execOp
    rw [show (Mop 3 (by decide)).op = .indexAddr 27 (.tmp 79) (.tmp 80) from by kernel_rfl]
    simp [go_sem, t79, t80, e2, e3]
  exact wp_val hrun (hK _ _ (hRM _) (rfl))

theorem M_12 (hin : InM w0 a0 s g i n c ad u p q0) : Ob Try.prog RM Q BM a0 SM w0 (VM g i n c ad u p q0) 12 := by
  intro o x a w ho hB hd hu hs hf hw K hK
  obtain rfl : Mop 12 (by decide) = o := Option.some.inj ((atM 12 (by decide)).symm.trans ho)
  have hg := (wants_some (show (Mop 12 (by decide)).guard = some (8, false) from by kernel_rfl)).1 hw
  have t88 := hs 10 88 _ (atM 10 (by decide)) (by kernel_rfl) rfl
  have d88 : x 10 = .slice (some ad) n c := hd 10 _ (atM 10 (by decide)) rfl ((wants_some (by kernel_rfl)).2 hg)
  rw [d88] at t88
  have t89 := hs 11 89 _ (atM 11 (by decide)) (by kernel_rfl) rfl
  have d89 : x 11 = .int .i64 i := hd 11 _ (atM 11 (by decide)) rfl ((wants_some (by kernel_rfl)).2 hg)
  rw [d89] at t89
  have e2 := hin.il
  have e3 : (i : Int) < (n : Int) := by omega
  have hrun : (execOp a.eval (Mop 12 (by decide))).run Try.prog w = .ok (.value (.pointer (some (ad.add (i * 5))))) w := by
    unfold execOp
    rw [show (Mop 12 (by decide)).op = .indexAddr 27 (.tmp 88) (.tmp 89) from by kernel_rfl]
    simp [go_sem, t88, t89, e2, e3]
  exact wp_val hrun (hK _ _ (hRM _) (rfl))

theorem M_33 (hin : InM w0 a0 s g i n c ad u p q0) : Ob Try.prog RM Q BM a0 SM w0 (VM g i n c ad u p q0) 33 := by
  intro o x a w ho hB hd hu hs hf hw K hK
  obtain rfl : Mop 33 (by decide) = o := Option.some.inj ((atM 33 (by decide)).symm.trans ho)
  have hg := (wants_some (show (Mop 33 (by decide)).guard = some (21, true) from by kernel_rfl)).1 hw
  have t109 := hs 31 109 _ (atM 31 (by decide)) (by kernel_rfl) rfl
  have d109 : x 31 = .slice (some ad) n c := hd 31 _ (atM 31 (by decide)) rfl ((wants_some (by kernel_rfl)).2 hg)
  rw [d109] at t109
  have t110 := hs 32 110 _ (atM 32 (by decide)) (by kernel_rfl) rfl
  have d110 : x 32 = .int .i64 i := hd 32 _ (atM 32 (by decide)) rfl ((wants_some (by kernel_rfl)).2 hg)
  rw [d110] at t110
  have e2 := hin.il
  have e3 : (i : Int) < (n : Int) := by omega
  have hrun : (execOp a.eval (Mop 33 (by decide))).run Try.prog w = .ok (.value (.pointer (some (ad.add (i * 5))))) w := by
    unfold execOp
    rw [show (Mop 33 (by decide)).op = .indexAddr 27 (.tmp 109) (.tmp 110) from by kernel_rfl]
    simp [go_sem, t109, t110, e2, e3]
  exact wp_val hrun (hK _ _ (hRM _) (rfl))

theorem M_4 (hin : InM w0 a0 s g i n c ad u p q0) : Ob Try.prog RM Q BM a0 SM w0 (VM g i n c ad u p q0) 4 := by
  intro o x a w ho hB hd hu hs hf hw K hK
  obtain rfl : Mop 4 (by decide) = o := Option.some.inj ((atM 4 (by decide)).symm.trans ho)
  have t81 := hs 3 81 _ (atM 3 (by decide)) (by kernel_rfl) rfl
  have d81 : x 3 = .pointer (some (ad.add (i * 5))) := hd 3 _ (atM 3 (by decide)) rfl (wants_none (by kernel_rfl))
  rw [d81] at t81
  have hrun : (execOp a.eval (Mop 4 (by decide))).run Try.prog w = .ok (.value (.pointer (some (ad.add (i * 5))))) w := by
    unfold execOp
    rw [show (Mop 4 (by decide)).op = .fieldAddr 69 (.tmp 81) 0 from by kernel_rfl]
    simp [go_sem, t81, Addr.add]
  exact wp_val hrun (hK _ _ (hRM _) (rfl))

theorem M_34 (hin : InM w0 a0 s g i n c ad u p q0) : Ob Try.prog RM Q BM a0 SM w0 (VM g i n c ad u p q0) 34 := by
  intro o x a w ho hB hd hu hs hf hw K hK
  obtain rfl : Mop 34 (by decide) = o := Option.some.inj ((atM 34 (by decide)).symm.trans ho)
  have hg := (wants_some (show (Mop 34 (by decide)).guard = some (21, true) from by kernel_rfl)).1 hw
  have t111 := hs 33 111 _ (atM 33 (by decide)) (by kernel_rfl) rfl
  have d111 : x 33 = .pointer (some (ad.add (i * 5))) := hd 33 _ (atM 33 (by decide)) rfl ((wants_some (by kernel_rfl)).2 hg)
  rw [d111] at t111
  have hrun : (execOp a.eval (Mop 34 (by decide))).run Try.prog w = .ok (.value (.pointer (some (ad.add (i * 5))))) w := by
    unfold execOp
    rw [show (Mop 34 (by decide)).op = .fieldAddr 69 (.tmp 111) 0 from by kernel_rfl]
    simp [go_sem, t111, Addr.add]
  exact wp_val hrun (hK _ _ (hRM _) (rfl))

theorem M_5 (hin : InM w0 a0 s g i n c ad u p q0) : Ob Try.prog RM Q BM a0 SM w0 (VM g i n c ad u p q0) 5 := by
  intro o x a w ho hB hd hu hs hf hw K hK
  obtain rfl : Mop 5 (by decide) = o := Option.some.inj ((atM 5 (by decide)).symm.trans ho)
  have t82 := hs 4 82 _ (atM 4 (by decide)) (by kernel_rfl) rfl
  have d82 : x 4 = .pointer (some (ad.add (i * 5))) := hd 4 _ (atM 4 (by decide)) rfl (wants_none (by kernel_rfl))
  rw [d82] at t82
  have hc := (hin.cur.below hB).c0
  have hrun : (execOp a.eval (Mop 5 (by decide))).run Try.prog w = .ok (.value (.string u.name)) w := by
    unfold execOp
    rw [show (Mop 5 (by decide)).op = .load 9 (.tmp 82) from by kernel_rfl]
    simp [go_sem, t82, hc]
  exact wp_val hrun (hK _ _ (hRM _) (rfl))

theorem M_35 (hin : InM w0 a0 s g i n c ad u p q0) : Ob Try.prog RM Q BM a0 SM w0 (VM g i n c ad u p q0) 35 := by
  intro o x a w ho hB hd hu hs hf hw K hK
  obtain rfl : Mop 35 (by decide) = o := Option.some.inj ((atM 35 (by decide)).symm.trans ho)
  have hg := (wants_some (show (Mop 35 (by decide)).guard = some (21, true) from by kernel_rfl)).1 hw
  have t112 := hs 34 112 _ (atM 34 (by decide)) (by kernel_rfl) rfl
  have d112 : x 34 = .pointer (some (ad.add (i * 5))) := hd 34 _ (atM 34 (by decide)) rfl ((wants_some (by kernel_rfl)).2 hg)
  rw [d112] at t112
  have hc := (hin.cur.below hB).c0
  have hrun : (execOp a.eval (Mop 35 (by decide))).run Try.prog w = .ok (.value (.string u.name)) w := by
    unfold execOp
    rw [show (Mop 35 (by decide)).op = .load 9 (.tmp 112) from by kernel_rfl]
    simp [go_sem, t112, hc]
  exact wp_val hrun (hK _ _ (hRM _) (rfl))

theorem M_6 (hin : InM w0 a0 s g i n c ad u p q0) : Ob Try.prog RM Q BM a0 SM w0 (VM g i n c ad u p q0) 6 := by
  intro o x a w ho hB hd hu hs hf hw K hK
  obtain rfl : Mop 6 (by decide) = o := Option.some.inj ((atM 6 (by decide)).symm.trans ho)
  have t83 := hs 5 83 _ (atM 5 (by decide)) (by kernel_rfl) rfl
  have d83 : x 5 = .string u.name := hd 5 _ (atM 5 (by decide)) rfl (wants_none (by kernel_rfl))
  rw [d83] at t83
  refine wp_calls (ats := #[.tmp 83]) (ts := #[9]) Try.func31 (by kernel_rfl) (by kernel_rfl) #[.string u.name] (by kernel_rfl) (by simp [Act.eval, t83]) ?_
  refine (name_any u.name w).mono ?_
  rintro e w' ⟨b, rfl, hb, hB'⟩
  exact ⟨_, rfl, hK _ _ hB' ⟨b, rfl, hb⟩⟩

theorem M_7 (hin : InM w0 a0 s g i n c ad u p q0) : Ob Try.prog RM Q BM a0 SM w0 (VM g i n c ad u p q0) 7 := by
  intro o x a w ho hB hd hu hs hf hw K hK
  obtain rfl : Mop 7 (by decide) = o := Option.some.inj ((atM 7 (by decide)).symm.trans ho)
  have t84 := hs 6 84 _ (atM 6 (by decide)) (by kernel_rfl) rfl
  have d84 : ∃ b : Bool, x 6 = .bool b ∧ (b = true → u.name.size ≤ 32) := hd 6 _ (atM 6 (by decide)) rfl (wants_none (by kernel_rfl))
  obtain ⟨b, eb, hb⟩ := d84
  rw [eb] at t84
  have hrun : (execOp a.eval (Mop 7 (by decide))).run Try.prog w = .ok (.value (.bool (!b))) w := by
    unfold execOp
    rw [show (Mop 7 (by decide)).op = .unOp .not 4 (.tmp 84) from by kernel_rfl]
    simp [go_sem, t84]
  exact wp_val hrun (hK _ _ (Below.refl _ _) ⟨!b, rfl, fun h => hb (by simpa using h)⟩)

theorem M_16 (hin : InM w0 a0 s g i n c ad u p q0) : Ob Try.prog RM Q BM a0 SM w0 (VM g i n c ad u p q0) 16 := by
  intro o x a w ho hB hd hu hs hf hw K hK
  obtain rfl : Mop 16 (by decide) = o := Option.some.inj ((atM 16 (by decide)).symm.trans ho)
  have hg := (wants_some (show (Mop 16 (by decide)).guard = some (8, false) from by kernel_rfl)).1 hw
  have t93 := hs 15 93 _ (atM 15 (by decide)) (by kernel_rfl) rfl
  have d93 : ∃ b : Bool, x 15 = .bool b ∧ (b = true → u.text.size ≤ 200) := hd 15 _ (atM 15 (by decide)) rfl ((wants_some (by kernel_rfl)).2 hg)
  obtain ⟨b, eb, hb⟩ := d93
  rw [eb] at t93
  have hrun : (execOp a.eval (Mop 16 (by decide))).run Try.prog w = .ok (.value (.bool (!b))) w := by
    unfold execOp
    rw [show (Mop 16 (by decide)).op = .unOp .not 4 (.tmp 93) from by kernel_rfl]
    simp [go_sem, t93]
  exact wp_val hrun (hK _ _ (Below.refl _ _) ⟨!b, rfl, fun h => hb (by simpa using h)⟩)

theorem M_8 (hin : InM w0 a0 s g i n c ad u p q0) : Ob Try.prog RM Q BM a0 SM w0 (VM g i n c ad u p q0) 8 := by
  intro o x a w ho hB hd hu hs hf hw K hK
  obtain rfl : Mop 8 (by decide) = o := Option.some.inj ((atM 8 (by decide)).symm.trans ho)
  have t85 := hs 7 85 _ (atM 7 (by decide)) (by kernel_rfl) rfl
  have d85 : ∃ b : Bool, x 7 = .bool b ∧ (b = false → u.name.size ≤ 32) := hd 7 _ (atM 7 (by decide)) rfl (wants_none (by kernel_rfl))
  obtain ⟨b, eb, hb⟩ := d85
  rw [eb] at t85
  have hrun : (execOp a.eval (Mop 8 (by decide))).run Try.prog w = .ok (.value (.bool b)) w := by
    unfold execOp
    rw [show (Mop 8 (by decide)).op = .move (.tmp 85) from by kernel_rfl]
    simp [go_sem, t85]
  exact wp_val hrun (hK _ _ (Below.refl _ _) ⟨b, rfl, hb⟩)

theorem M_13 (hin : InM w0 a0 s g i n c ad u p q0) : Ob Try.prog RM Q BM a0 SM w0 (VM g i n c ad u p q0) 13 := by
  intro o x a w ho hB hd hu hs hf hw K hK
  obtain rfl : Mop 13 (by decide) = o := Option.some.inj ((atM 13 (by decide)).symm.trans ho)
  have hg := (wants_some (show (Mop 13 (by decide)).guard = some (8, false) from by kernel_rfl)).1 hw
  have t90 := hs 12 90 _ (atM 12 (by decide)) (by kernel_rfl) rfl
  have d90 : x 12 = .pointer (some (ad.add (i * 5))) := hd 12 _ (atM 12 (by decide)) rfl ((wants_some (by kernel_rfl)).2 hg)
  rw [d90] at t90
  have hrun : (execOp a.eval (Mop 13 (by decide))).run Try.prog w = .ok (.value (.pointer (some ⟨(ad.add (i * 5)).block, (ad.add (i * 5)).off + 1, none⟩))) w := by
    unfold execOp
    rw [show (Mop 13 (by decide)).op = .fieldAddr 69 (.tmp 90) 1 from by kernel_rfl]
    simp [go_sem, t90, Addr.add]
  exact wp_val hrun (hK _ _ (hRM _) (rfl))

theorem M_14 (hin : InM w0 a0 s g i n c ad u p q0) : Ob Try.prog RM Q BM a0 SM w0 (VM g i n c ad u p q0) 14 := by
  intro o x a w ho hB hd hu hs hf hw K hK
  obtain rfl : Mop 14 (by decide) = o := Option.some.inj ((atM 14 (by decide)).symm.trans ho)
  have hg := (wants_some (show (Mop 14 (by decide)).guard = some (8, false) from by kernel_rfl)).1 hw
  have t91 := hs 13 91 _ (atM 13 (by decide)) (by kernel_rfl) rfl
  have d91 : x 13 = .pointer (some ⟨(ad.add (i * 5)).block, (ad.add (i * 5)).off + 1, none⟩) := hd 13 _ (atM 13 (by decide)) rfl ((wants_some (by kernel_rfl)).2 hg)
  rw [d91] at t91
  have hc := hin.cur.below hB
  have c1 := hc.c1
  have c2 := hc.c2
  have c3 := hc.c3
  have c4 := hc.c4
  have hrun : (execOp a.eval (Mop 14 (by decide))).run Try.prog w = .ok (.value (.agg #[.int .i64 u.kind, .string u.text, .int .i64 u.num, .bool u.tru])) w := by
    unfold execOp
    rw [show (Mop 14 (by decide)).op = .load 45 (.tmp 91) from by kernel_rfl]
    simp [go_sem, t91, c1, c2, c3, c4]
  exact wp_val hrun (hK _ _ (hRM _) (rfl))

theorem M_15 (hin : InM w0 a0 s g i n c ad u p q0) : Ob Try.prog RM Q BM a0 SM w0 (VM g i n c ad u p q0) 15 := by
  intro o x a w ho hB hd hu hs hf hw K hK
  obtain rfl : Mop 15 (by decide) = o := Option.some.inj ((atM 15 (by decide)).symm.trans ho)
  have hg := (wants_some (show (Mop 15 (by decide)).guard = some (8, false) from by kernel_rfl)).1 hw
  have t92 := hs 14 92 _ (atM 14 (by decide)) (by kernel_rfl) rfl
  have d92 : x 14 = .agg #[.int .i64 u.kind, .string u.text, .int .i64 u.num, .bool u.tru] := hd 14 _ (atM 14 (by decide)) rfl ((wants_some (by kernel_rfl)).2 hg)
  rw [d92] at t92
  refine wp_calls (ats := #[.tmp 92]) (ts := #[45]) Try.func28 (by kernel_rfl) (by kernel_rfl) #[.agg #[.int .i64 u.kind, .string u.text, .int .i64 u.num, .bool u.tru]] (by kernel_rfl) (by simp [Act.eval, t92]) ?_
  refine (value_any u.kind u.text u.num u.tru w).mono ?_
  rintro e w' ⟨b, rfl, hb, hB'⟩
  exact ⟨_, rfl, hK _ _ hB' ⟨b, rfl, hb⟩⟩

theorem M_17 (hin : InM w0 a0 s g i n c ad u p q0) : Ob Try.prog RM Q BM a0 SM w0 (VM g i n c ad u p q0) 17 := by
  intro o x a w ho hB hd hu hs hf hw K hK
  obtain rfl : Mop 17 (by decide) = o := Option.some.inj ((atM 17 (by decide)).symm.trans ho)
  have t86 := hs 8 86 _ (atM 8 (by decide)) (by kernel_rfl) rfl
  have d86 : ∃ b : Bool, x 8 = .bool b ∧ (b = false → u.name.size ≤ 32) := hd 8 _ (atM 8 (by decide)) rfl (wants_none (by kernel_rfl))
  obtain ⟨b, eb, hb⟩ := d86
  rw [eb] at t86
  cases b
  · have t94 := hs 16 94 _ (atM 16 (by decide)) (by kernel_rfl) rfl
    have d94 : ∃ b : Bool, x 16 = .bool b ∧ (b = false → u.text.size ≤ 200) := hd 16 _ (atM 16 (by decide)) rfl ((wants_some (by kernel_rfl)).2 eb)
    obtain ⟨b2, eb2, hb2⟩ := d94
    rw [eb2] at t94
    have hrun : (execOp a.eval (Mop 17 (by decide))).run Try.prog w = .ok (.value (.bool b2)) w := by
      unfold execOp
      rw [show (Mop 17 (by decide)).op = .pick (.tmp 86) (.const (.bool true)) (.tmp 94) from by kernel_rfl]
      simp [go_sem, t86, t94]
    exact wp_val hrun (hK _ _ (Below.refl _ _) ⟨b2, rfl, fun h => ⟨hb rfl, hb2 h⟩⟩)
  · have hrun : (execOp a.eval (Mop 17 (by decide))).run Try.prog w = .ok (.value (.bool true)) w := by
      unfold execOp
      rw [show (Mop 17 (by decide)).op = .pick (.tmp 86) (.const (.bool true)) (.tmp 94) from by kernel_rfl]
      simp [go_sem, t86]
    exact wp_val hrun (hK _ _ (Below.refl _ _) ⟨true, rfl, fun h => by cases h⟩)

theorem M_18 (hin : InM w0 a0 s g i n c ad u p q0) : Ob Try.prog RM Q BM a0 SM w0 (VM g i n c ad u p q0) 18 := by
  intro o x a w ho hB hd hu hs hf hw K hK
  obtain rfl : Mop 18 (by decide) = o := Option.some.inj ((atM 18 (by decide)).symm.trans ho)
  have t95 := hs 17 95 _ (atM 17 (by decide)) (by kernel_rfl) rfl
  have d95 : ∃ b : Bool, x 17 = .bool b ∧ (b = false → (u.name.size ≤ 32 ∧ u.text.size ≤ 200)) := hd 17 _ (atM 17 (by decide)) rfl (wants_none (by kernel_rfl))
  obtain ⟨b, eb, hb⟩ := d95
  rw [eb] at t95
  have hrun : (execOp a.eval (Mop 18 (by decide))).run Try.prog w = .ok (.value (.bool b)) w := by
    unfold execOp
    rw [show (Mop 18 (by decide)).op = .move (.tmp 95) from by kernel_rfl]
    simp [go_sem, t95]
  exact wp_val hrun (hK _ _ (Below.refl _ _) ⟨b, rfl, hb⟩)

theorem M_20 (hin : InM w0 a0 s g i n c ad u p q0) : Ob Try.prog RM Q BM a0 SM w0 (VM g i n c ad u p q0) 20 := by
  intro o x a w ho hB hd hu hs hf hw K hK
  obtain rfl : Mop 20 (by decide) = o := Option.some.inj ((atM 20 (by decide)).symm.trans ho)
  have hg := (wants_some (show (Mop 20 (by decide)).guard = some (18, false) from by kernel_rfl)).1 hw
  have t97 := hs 19 97 _ (atM 19 (by decide)) (by kernel_rfl) rfl
  have d97 : x 19 = .int .i64 i := hd 19 _ (atM 19 (by decide)) rfl ((wants_some (by kernel_rfl)).2 hg)
  rw [d97] at t97
  have hrun : (execOp a.eval (Mop 20 (by decide))).run Try.prog w = .ok (.value (.bool q0)) w := by
    unfold execOp
    rw [show (Mop 20 (by decide)).op = .binOp .gtr 3 (.tmp 97) (.const (.int .i64 0)) 3 from by kernel_rfl]
    simp [go_sem, t97, hin.dj0]
  exact wp_val hrun (hK _ _ (hRM _) (rfl))

theorem M_21 (hin : InM w0 a0 s g i n c ad u p q0) : Ob Try.prog RM Q BM a0 SM w0 (VM g i n c ad u p q0) 21 := by
  intro o x a w ho hB hd hu hs hf hw K hK
  obtain rfl : Mop 21 (by decide) = o := Option.some.inj ((atM 21 (by decide)).symm.trans ho)
  have hg := (wants_some (show (Mop 21 (by decide)).guard = some (18, false) from by kernel_rfl)).1 hw
  have t98 := hs 20 98 _ (atM 20 (by decide)) (by kernel_rfl) rfl
  have d98 : x 20 = .bool q0 := hd 20 _ (atM 20 (by decide)) rfl ((wants_some (by kernel_rfl)).2 hg)
  rw [d98] at t98
  have hrun : (execOp a.eval (Mop 21 (by decide))).run Try.prog w = .ok (.value (.bool q0)) w := by
    unfold execOp
    rw [show (Mop 21 (by decide)).op = .move (.tmp 98) from by kernel_rfl]
    simp [go_sem, t98]
  exact wp_val hrun (hK _ _ (hRM _) (rfl))

theorem M_25 (hin : InM w0 a0 s g i n c ad u p q0) : Ob Try.prog RM Q BM a0 SM w0 (VM g i n c ad u p q0) 25 := by
  intro o x a w ho hB hd hu hs hf hw K hK
  obtain rfl : Mop 25 (by decide) = o := Option.some.inj ((atM 25 (by decide)).symm.trans ho)
  have hg := (wants_some (show (Mop 25 (by decide)).guard = some (21, true) from by kernel_rfl)).1 hw
  have t102 := hs 24 102 _ (atM 24 (by decide)) (by kernel_rfl) rfl
  have d102 : x 24 = .int .i64 i := hd 24 _ (atM 24 (by decide)) rfl ((wants_some (by kernel_rfl)).2 hg)
  rw [d102] at t102
  have hj : 0 < i := pos_M hin x w (B := BM) (j := 25) rfl rfl rfl hd hu hg
  have hl := hin.il
  have hN := hin.nl
  have e1 : IntKind.i64.wrap ((i : Int) - 1) = (i : Int) - 1 := by rw [IntKind.wrap_i64]; omega
  have hrun : (execOp a.eval (Mop 25 (by decide))).run Try.prog w = .ok (.value (.int .i64 ((i : Int) - 1))) w := by
    unfold execOp
    rw [show (Mop 25 (by decide)).op = .binOp .sub 3 (.tmp 102) (.const (.int .i64 1)) 3 from by kernel_rfl]
    simp [go_sem, t102, e1]
  exact wp_val hrun (hK _ _ (hRM _) (rfl))

theorem M_26 (hin : InM w0 a0 s g i n c ad u p q0) : Ob Try.prog RM Q BM a0 SM w0 (VM g i n c ad u p q0) 26 := by
  intro o x a w ho hB hd hu hs hf hw K hK
  obtain rfl : Mop 26 (by decide) = o := Option.some.inj ((atM 26 (by decide)).symm.trans ho)
  have hg := (wants_some (show (Mop 26 (by decide)).guard = some (21, true) from by kernel_rfl)).1 hw
  have t101 := hs 23 101 _ (atM 23 (by decide)) (by kernel_rfl) rfl
  have d101 : x 23 = .slice (some ad) n c := hd 23 _ (atM 23 (by decide)) rfl ((wants_some (by kernel_rfl)).2 hg)
  rw [d101] at t101
  have t103 := hs 25 103 _ (atM 25 (by decide)) (by kernel_rfl) rfl
  have d103 : x 25 = .int .i64 ((i : Int) - 1) := hd 25 _ (atM 25 (by decide)) rfl ((wants_some (by kernel_rfl)).2 hg)
  rw [d103] at t103
  have hj : 0 < i := pos_M hin x w (B := BM) (j := 26) rfl rfl rfl hd hu hg
  have hl := hin.il
  have e1 : ((i : Int) - 1).toNat = i - 1 := by omega
  have e2 : (0 : Int) ≤ (i : Int) - 1 := by omega
  have e3 : (i : Int) - 1 < (n : Int) := by omega
  have e4 : 1 ≤ i := hj
  have e5 : i ≤ n := by omega
  have e6 : ¬ (i : Int) < 1 := by omega
  have hrun : (execOp a.eval (Mop 26 (by decide))).run Try.prog w = .ok (.value (.pointer (some (ad.add ((i - 1) * 5))))) w := by
    unfold execOp
    rw [show (Mop 26 (by decide)).op = .indexAddr 27 (.tmp 101) (.tmp 103) from by kernel_rfl]
    simp [go_sem, t101, t103, e1, e2, e3, e4, e5, e6]
  exact wp_val hrun (hK _ _ (hRM _) (rfl))

theorem M_27 (hin : InM w0 a0 s g i n c ad u p q0) : Ob Try.prog RM Q BM a0 SM w0 (VM g i n c ad u p q0) 27 := by
  intro o x a w ho hB hd hu hs hf hw K hK
  obtain rfl : Mop 27 (by decide) = o := Option.some.inj ((atM 27 (by decide)).symm.trans ho)
  have hg := (wants_some (show (Mop 27 (by decide)).guard = some (21, true) from by kernel_rfl)).1 hw
  have t104 := hs 26 104 _ (atM 26 (by decide)) (by kernel_rfl) rfl
  have d104 : x 26 = .pointer (some (ad.add ((i - 1) * 5))) := hd 26 _ (atM 26 (by decide)) rfl ((wants_some (by kernel_rfl)).2 hg)
  rw [d104] at t104
  have hrun : (execOp a.eval (Mop 27 (by decide))).run Try.prog w = .ok (.value (.pointer (some (ad.add ((i - 1) * 5))))) w := by
    unfold execOp
    rw [show (Mop 27 (by decide)).op = .fieldAddr 69 (.tmp 104) 0 from by kernel_rfl]
    simp [go_sem, t104, Addr.add]
  exact wp_val hrun (hK _ _ (hRM _) (rfl))

theorem M_28 (hin : InM w0 a0 s g i n c ad u p q0) : Ob Try.prog RM Q BM a0 SM w0 (VM g i n c ad u p q0) 28 := by
  intro o x a w ho hB hd hu hs hf hw K hK
  obtain rfl : Mop 28 (by decide) = o := Option.some.inj ((atM 28 (by decide)).symm.trans ho)
  have hg := (wants_some (show (Mop 28 (by decide)).guard = some (21, true) from by kernel_rfl)).1 hw
  have t105 := hs 27 105 _ (atM 27 (by decide)) (by kernel_rfl) rfl
  have d105 : x 27 = .pointer (some (ad.add ((i - 1) * 5))) := hd 27 _ (atM 27 (by decide)) rfl ((wants_some (by kernel_rfl)).2 hg)
  rw [d105] at t105
  have hj : 0 < i := pos_M hin x w (B := BM) (j := 28) rfl rfl rfl hd hu hg
  have hc := ((hin.prv hj).1.below hB).c0
  have hrun : (execOp a.eval (Mop 28 (by decide))).run Try.prog w = .ok (.value (.string p.name)) w := by
    unfold execOp
    rw [show (Mop 28 (by decide)).op = .load 9 (.tmp 105) from by kernel_rfl]
    simp [go_sem, t105, hc]
  exact wp_val hrun (hK _ _ (hRM _) (rfl))

theorem M_29 (hin : InM w0 a0 s g i n c ad u p q0) : Ob Try.prog RM Q BM a0 SM w0 (VM g i n c ad u p q0) 29 := by
  intro o x a w ho hB hd hu hs hf hw K hK
  obtain rfl : Mop 29 (by decide) = o := Option.some.inj ((atM 29 (by decide)).symm.trans ho)
  have hg := (wants_some (show (Mop 29 (by decide)).guard = some (21, true) from by kernel_rfl)).1 hw
  have t106 := hs 28 106 _ (atM 28 (by decide)) (by kernel_rfl) rfl
  have d106 : x 28 = .string p.name := hd 28 _ (atM 28 (by decide)) rfl ((wants_some (by kernel_rfl)).2 hg)
  rw [d106] at t106
  have hj : 0 < i := pos_M hin x w (B := BM) (j := 29) rfl rfl rfl hd hu hg
  have hsz := (hin.prv hj).2
  have hcv := Lib.run_convert_string_bytes (P := Try.prog) w 9 36 5 p.name Try.underlying9 Try.underlying36 Try.underlying5
  have hrun : (execOp a.eval (Mop 29 (by decide))).run Try.prog w = .ok (.value (.slice (some ⟨w.heap.size, 0, none⟩) p.name.size (grownCap w p.name.size 0 5))) (Lib.bytesWorld w 5 p.name) := by
    unfold execOp
    rw [show (Mop 29 (by decide)).op = .convert 9 36 (.tmp 106) from by kernel_rfl]
    simp [go_sem, t106, hcv]
  exact wp_val hrun (hK _ _ (bytesWorld_below w p.name) ⟨_, _, _, _, rfl, bytes_reads w 5 p.name (by omega)⟩)

theorem M_36 (hin : InM w0 a0 s g i n c ad u p q0) : Ob Try.prog RM Q BM a0 SM w0 (VM g i n c ad u p q0) 36 := by
  intro o x a w ho hB hd hu hs hf hw K hK
  obtain rfl : Mop 36 (by decide) = o := Option.some.inj ((atM 36 (by decide)).symm.trans ho)
  have hg := (wants_some (show (Mop 36 (by decide)).guard = some (21, true) from by kernel_rfl)).1 hw
  have t113 := hs 35 113 _ (atM 35 (by decide)) (by kernel_rfl) rfl
  have d113 : x 35 = .string u.name := hd 35 _ (atM 35 (by decide)) rfl ((wants_some (by kernel_rfl)).2 hg)
  rw [d113] at t113
  have hsz : u.name.size ≤ 32 := cur_M hin x w (B := BM) (j := 36) rfl rfl rfl hd hu hg
  have hcv := Lib.run_convert_string_bytes (P := Try.prog) w 9 36 5 u.name Try.underlying9 Try.underlying36 Try.underlying5
  have hrun : (execOp a.eval (Mop 36 (by decide))).run Try.prog w = .ok (.value (.slice (some ⟨w.heap.size, 0, none⟩) u.name.size (grownCap w u.name.size 0 5))) (Lib.bytesWorld w 5 u.name) := by
    unfold execOp
    rw [show (Mop 36 (by decide)).op = .convert 9 36 (.tmp 113) from by kernel_rfl]
    simp [go_sem, t113, hcv]
  exact wp_val hrun (hK _ _ (bytesWorld_below w u.name) ⟨_, _, _, _, rfl, bytes_reads w 5 u.name (by omega)⟩)

theorem M_37 (hin : InM w0 a0 s g i n c ad u p q0) : Ob Try.prog RM Q BM a0 SM w0 (VM g i n c ad u p q0) 37 := by
  intro o x a w ho hB hd hu hs hf hw K hK
  obtain rfl : Mop 37 (by decide) = o := Option.some.inj ((atM 37 (by decide)).symm.trans ho)
  have hg := (wants_some (show (Mop 37 (by decide)).guard = some (21, true) from by kernel_rfl)).1 hw
  have t107 := hs 29 107 _ (atM 29 (by decide)) (by kernel_rfl) rfl
  have d107 : ∃ (A : Option Addr) (n k : Nat) (xs : List Int), x 29 = .slice A n k ∧ ReadsInt w .u8 A n xs := hd 29 _ (atM 29 (by decide)) rfl ((wants_some (by kernel_rfl)).2 hg)
  have t114 := hs 36 114 _ (atM 36 (by decide)) (by kernel_rfl) rfl
  have d114 : ∃ (A : Option Addr) (n k : Nat) (xs : List Int), x 36 = .slice A n k ∧ ReadsInt w .u8 A n xs := hd 36 _ (atM 36 (by decide)) rfl ((wants_some (by kernel_rfl)).2 hg)
  obtain ⟨A1, n1, k1, xs1, e1, r1⟩ := d107
  obtain ⟨A2, n2, k2, xs2, e2, r2⟩ := d114
  rw [e1] at t107
  rw [e2] at t114
  refine wp_calls (ats := #[.tmp 107, .tmp 114]) (ts := #[36, 36]) Try.func13 (by kernel_rfl) (by kernel_rfl) #[.slice A1 n1 k1, .slice A2 n2 k2] (by kernel_rfl) (by simp [Act.eval, t107, t114]) ?_
  refine (less_any _ _ _ _ _ _ _ _ _ r1 r2).mono ?_
  rintro e w' ⟨rfl, hd'⟩
  exact ⟨_, rfl, hK _ _ hd'.below ⟨_, rfl⟩⟩

theorem M_38 (hin : InM w0 a0 s g i n c ad u p q0) : Ob Try.prog RM Q BM a0 SM w0 (VM g i n c ad u p q0) 38 := by
  intro o x a w ho hB hd hu hs hf hw K hK
  obtain rfl : Mop 38 (by decide) = o := Option.some.inj ((atM 38 (by decide)).symm.trans ho)
  have hg := (wants_some (show (Mop 38 (by decide)).guard = some (21, true) from by kernel_rfl)).1 hw
  have t115 := hs 37 115 _ (atM 37 (by decide)) (by kernel_rfl) rfl
  have d115 : ∃ b : Bool, x 37 = .bool b := hd 37 _ (atM 37 (by decide)) rfl ((wants_some (by kernel_rfl)).2 hg)
  obtain ⟨b, eb⟩ := d115
  rw [eb] at t115
  have hrun : (execOp a.eval (Mop 38 (by decide))).run Try.prog w = .ok (.value (.bool (!b))) w := by
    unfold execOp
    rw [show (Mop 38 (by decide)).op = .unOp .not 4 (.tmp 115) from by kernel_rfl]
    simp [go_sem, t115]
  exact wp_val hrun (hK _ _ (Below.refl _ _) ⟨!b, rfl⟩)

theorem M_39 (hin : InM w0 a0 s g i n c ad u p q0) : Ob Try.prog RM Q BM a0 SM w0 (VM g i n c ad u p q0) 39 := by
  intro o x a w ho hB hd hu hs hf hw K hK
  obtain rfl : Mop 39 (by decide) = o := Option.some.inj ((atM 39 (by decide)).symm.trans ho)
  have hg := (wants_some (show (Mop 39 (by decide)).guard = some (18, false) from by kernel_rfl)).1 hw
  have t99 := hs 21 99 _ (atM 21 (by decide)) (by kernel_rfl) rfl
  have d99 : x 21 = .bool q0 := hd 21 _ (atM 21 (by decide)) rfl ((wants_some (by kernel_rfl)).2 hg)
  rw [d99] at t99
  have hq : ∃ q : Bool, q = q0 := ⟨_, rfl⟩
  obtain ⟨q, hq⟩ := hq
  rw [← hq] at t99 d99
  cases q
  · have hrun : (execOp a.eval (Mop 39 (by decide))).run Try.prog w = .ok (.value (.bool false)) w := by
      unfold execOp
      rw [show (Mop 39 (by decide)).op = .pick (.tmp 99) (.tmp 116) (.const (.bool false)) from by kernel_rfl]
      simp [go_sem, t99]
    exact wp_val hrun (hK _ _ (Below.refl _ _) ⟨false, rfl⟩)
  · have t116 := hs 38 116 _ (atM 38 (by decide)) (by kernel_rfl) rfl
    have d116 : ∃ b : Bool, x 38 = .bool b := hd 38 _ (atM 38 (by decide)) rfl ((wants_some (by kernel_rfl)).2 d99)
    obtain ⟨b2, eb2⟩ := d116
    rw [eb2] at t116
    have hrun : (execOp a.eval (Mop 39 (by decide))).run Try.prog w = .ok (.value (.bool b2)) w := by
      unfold execOp
      rw [show (Mop 39 (by decide)).op = .pick (.tmp 99) (.tmp 116) (.const (.bool false)) from by kernel_rfl]
      simp [go_sem, t99, t116]
    exact wp_val hrun (hK _ _ (Below.refl _ _) ⟨b2, rfl⟩)

theorem M_40 (hin : InM w0 a0 s g i n c ad u p q0) : Ob Try.prog RM Q BM a0 SM w0 (VM g i n c ad u p q0) 40 := by
  intro o x a w ho hB hd hu hs hf hw K hK
  obtain rfl : Mop 40 (by decide) = o := Option.some.inj ((atM 40 (by decide)).symm.trans ho)
  have t96 := hs 18 96 _ (atM 18 (by decide)) (by kernel_rfl) rfl
  have d96 : ∃ b : Bool, x 18 = .bool b ∧ (b = false → (u.name.size ≤ 32 ∧ u.text.size ≤ 200)) := hd 18 _ (atM 18 (by decide)) rfl (wants_none (by kernel_rfl))
  obtain ⟨b, eb, hb⟩ := d96
  rw [eb] at t96
  cases b
  · have t117 := hs 39 117 _ (atM 39 (by decide)) (by kernel_rfl) rfl
    have d117 : ∃ b : Bool, x 39 = .bool b := hd 39 _ (atM 39 (by decide)) rfl ((wants_some (by kernel_rfl)).2 eb)
    obtain ⟨b2, eb2⟩ := d117
    rw [eb2] at t117
    have hrun : (execOp a.eval (Mop 40 (by decide))).run Try.prog w = .ok (.value (.bool b2)) w := by
      unfold execOp
      rw [show (Mop 40 (by decide)).op = .pick (.tmp 96) (.const (.bool true)) (.tmp 117) from by kernel_rfl]
      simp [go_sem, t96, t117]
    exact wp_val hrun (hK _ _ (Below.refl _ _) ⟨b2, rfl, fun _ => hb rfl⟩)
  · have hrun : (execOp a.eval (Mop 40 (by decide))).run Try.prog w = .ok (.value (.bool true)) w := by
      unfold execOp
      rw [show (Mop 40 (by decide)).op = .pick (.tmp 96) (.const (.bool true)) (.tmp 117) from by kernel_rfl]
      simp [go_sem, t96]
    exact wp_val hrun (hK _ _ (Below.refl _ _) ⟨true, rfl, fun h => by cases h⟩)
theorem M_all (hin : InM w0 a0 s g i n c ad u p q0) : ∀ j, j < 41 → Ob Try.prog RM Q BM a0 SM w0 (VM g i n c ad u p q0) j
  | 0, _ => M_0 hin
  | 1, _ => M_1 hin
  | 2, _ => M_2 hin
  | 3, _ => M_3 hin
  | 4, _ => M_4 hin
  | 5, _ => M_5 hin
  | 6, _ => M_6 hin
  | 7, _ => M_7 hin
  | 8, _ => M_8 hin
  | 9, _ => M_9 hin
  | 10, _ => M_10 hin
  | 11, _ => M_11 hin
  | 12, _ => M_12 hin
  | 13, _ => M_13 hin
  | 14, _ => M_14 hin
  | 15, _ => M_15 hin
  | 16, _ => M_16 hin
  | 17, _ => M_17 hin
  | 18, _ => M_18 hin
  | 19, _ => M_19 hin
  | 20, _ => M_20 hin
  | 21, _ => M_21 hin
  | 22, _ => M_22 hin
  | 23, _ => M_23 hin
  | 24, _ => M_24 hin
  | 25, _ => M_25 hin
  | 26, _ => M_26 hin
  | 27, _ => M_27 hin
  | 28, _ => M_28 hin
  | 29, _ => M_29 hin
  | 30, _ => M_30 hin
  | 31, _ => M_31 hin
  | 32, _ => M_32 hin
  | 33, _ => M_33 hin
  | 34, _ => M_34 hin
  | 35, _ => M_35 hin
  | 36, _ => M_36 hin
  | 37, _ => M_37 hin
  | 38, _ => M_38 hin
  | 39, _ => M_39 hin
  | 40, _ => M_40 hin
  | k + 41, h => by omega
theorem stableM : ∀ j v w w', SM w w' → VM g i n c ad u p q0 j v w → VM g i n c ad u p q0 j v w' := by
  intro j v w w' hb h
  match j, h with
  | 0, h => exact h
  | 1, h => exact h
  | 2, h => exact h
  | 3, h => exact h
  | 4, h => exact h
  | 5, h => exact h
  | 6, h => exact h
  | 7, h => exact h
  | 8, h => exact h
  | 9, h => exact h
  | 10, h => exact h
  | 11, h => exact h
  | 12, h => exact h
  | 13, h => exact h
  | 14, h => exact h
  | 15, h => exact h
  | 16, h => exact h
  | 17, h => exact h
  | 18, h => exact h
  | 19, h => exact h
  | 20, h => exact h
  | 21, h => exact h
  | 22, h => exact h
  | 23, h => exact h
  | 24, h => exact h
  | 25, h => exact h
  | 26, h => exact h
  | 27, h => exact h
  | 28, h => exact h
  | 29, ⟨A, m, k, xs, e, hr⟩ => exact ⟨A, m, k, xs, e, hr.below hb⟩
  | 30, h => exact h
  | 31, h => exact h
  | 32, h => exact h
  | 33, h => exact h
  | 34, h => exact h
  | 35, h => exact h
  | 36, ⟨A, m, k, xs, e, hr⟩ => exact ⟨A, m, k, xs, e, hr.below hb⟩
  | 37, h => exact h
  | 38, h => exact h
  | 39, h => exact h
  | 40, h => exact h
  | k + 41, h => exact trivial
/-- THE REGION: a truth; if it is false the attribute's texts are short. -/
theorem region8 {id : Nat} {ops : Array Oper} (hops : ops = RM) (hsz : 119 ≤ a0.tmps.size) (hin : InM w0 a0 s g i n c ad u p q0)
    (hQ : ∀ (x : Nat → Value) w' (b : Bool), Below w0.heap.size w0 w' → x 40 = .bool b → (b = false → u.name.size ≤ 32 ∧ u.text.size ≤ 200) → Q .normal (fullOf x a0 ([(0, 78), (1, 79), (2, 80), (3, 81), (4, 82), (5, 83), (6, 84), (7, 85), (8, 86), (9, 87), (10, 88), (11, 89), (12, 90), (13, 91), (14, 92), (15, 93), (16, 94), (17, 95), (18, 96), (19, 97), (20, 98), (21, 99), (22, 100), (23, 101), (24, 102), (25, 103), (26, 104), (27, 105), (28, 106), (29, 107), (30, 108), (31, 109), (32, 110), (33, 111), (34, 112), (35, 113), (36, 114), (37, 115), (38, 116), (39, 117), (40, 118)] : List (Nat × Tmp))) w') : (Code.region id ops true).wp Try.prog Q a0 w0 := by
  subst hops
  refine region_typed SM BM (VM g i n c ad u p q0) (by kernel_rfl) sizeM waitsM baseM guardsM oneM twoM ?_ hRM hTM (Below.refl _ _).drew stableM (M_all hin) ?_
  · rw [dstsM]
    intro e he
    have h2 := List.all_eq_true.1 (show (([(0, 78), (1, 79), (2, 80), (3, 81), (4, 82), (5, 83), (6, 84), (7, 85), (8, 86), (9, 87), (10, 88), (11, 89), (12, 90), (13, 91), (14, 92), (15, 93), (16, 94), (17, 95), (18, 96), (19, 97), (20, 98), (21, 99), (22, 100), (23, 101), (24, 102), (25, 103), (26, 104), (27, 105), (28, 106), (29, 107), (30, 108), (31, 109), (32, 110), (33, 111), (34, 112), (35, 113), (36, 114), (37, 115), (38, 116), (39, 117), (40, 118)] : List (Nat × Tmp)).all fun e : Nat × Tmp => decide (e.2 < 119)) = true from by decide) e he
    exact Nat.lt_of_lt_of_le (of_decide_eq_true h2) hsz
  · intro x w' hS hV
    rw [dstsM]
    obtain ⟨b, e, hb⟩ : ∃ b : Bool, x 40 = .bool b ∧ (b = false → (u.name.size ≤ 32 ∧ u.text.size ≤ 200)) := hV 40 _ (atM 40 (by decide)) (wants_none (by kernel_rfl))
    exact hQ x w' b hS e hb
end
end Go.Proofs.Ytmckgcooehdbaaa
