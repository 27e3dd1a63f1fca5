/- One region of PlanBounds' law that draws its order, shown by one relation over what has come up: a query of its own with one more term. No condition beyond those that each theorem names. -/
import Derived.Test.YtmckgcooehdbaaaE2
import Derived.Test.YtmckgcooehdbaaaWInvWords
set_option linter.unusedVariables false
set_option linter.unusedSimpArgs false
set_option linter.unnecessarySimpa false
namespace Go.Proofs.Ytmckgcooehdbaaa
open Go.RowKit Go.Proofs.YtmckgcooehdbaaaW.PrintWords Go.Proofs.YtmckgcooehdbaaaW.PrintLast

noncomputable def R20 : Array Oper := opsOf Try.f4 20
def B20 : List Nat := [0, 0, 2, 7, 0, 16, 63, 127, 0, 511]
def O20 : List Nat := [0, 1, 2, 3, 4, 5, 6, 7, 8, 9]
theorem waits20 : waitsOk (rtab .any R20).2 B20 = true := by kernel_rfl
theorem base20 : baseOk (rtab .any R20).2 O20 = true := by kernel_rfl
theorem size20 : R20.size = 10 := by kernel_rfl
theorem at20 (i : Nat) (h : i < 10) : R20[i]? = some (R20[i]'(size20 ▸ h)) := Array.getElem?_eq_getElem _
noncomputable abbrev op20 (i : Nat) (h : i < 10) : Oper := R20[i]'(size20 ▸ h)
theorem op20_0 : (op20 0 (by decide)).op = .buildSlice 22 0 #[] := by kernel_rfl
theorem op20_1 : (op20 1 (by decide)).op = .fieldAddr 24 (.tmp 3) 0 := by kernel_rfl
theorem op20_2 : (op20 2 (by decide)).op = .load 22 (.tmp 106) := by kernel_rfl
theorem op20_3 : (op20 3 (by decide)).op = .call { callee := .builtin .append, args := #[.tmp 105, .tmp 107], argTypes := #[22, 22] } := by kernel_rfl
theorem op20_4 : (op20 4 (by decide)).op = .load 47 (.tmp 4) := by kernel_rfl
theorem op20_5 : (op20 5 (by decide)).op = .buildSlice 22 1 #[(0, .tmp 109)] := by kernel_rfl
theorem op20_6 : (op20 6 (by decide)).op = .call { callee := .builtin .append, args := #[.tmp 108, .tmp 110], argTypes := #[22, 22] } := by kernel_rfl
theorem op20_7 : (op20 7 (by decide)).op = .build 24 #[(0, .tmp 111)] := by kernel_rfl
theorem op20_8 : (op20 8 (by decide)).op = .alloc 24 := by kernel_rfl
theorem op20_9 : (op20 9 (by decide)).op = .store 24 (.tmp 14) (.tmp 112) := by kernel_rfl

theorem run20_0 (a : Act) (w : World) : (execOp a.eval (op20 0 (by decide))).run Try.prog w = .ok (.value (.slice (some ⟨w.heap.size, 0, none⟩) 0 0)) (w.alloc (.cells #[] 47)) := by
  unfold execOp
  rw [op20_0]
  simp [go_sem]
theorem run20_1 (a : Act) (w : World) (q : Nat) (h : a.tmps[3]? = some (.pointer (some ⟨q, 0, none⟩))) : (execOp a.eval (op20 1 (by decide))).run Try.prog w = .ok (.value (.pointer (some ⟨q, 0, none⟩))) w := by
  unfold execOp
  rw [op20_1]
  simp [go_sem, h]
theorem run20_2 (a : Act) (w : World) (q : Nat) (v : Value) (h : a.tmps[106]? = some (.pointer (some ⟨q, 0, none⟩))) (hv : w.cell? ⟨q, 0, none⟩ = some v) : (execOp a.eval (op20 2 (by decide))).run Try.prog w = .ok (.value v) w := by
  unfold execOp
  rw [op20_2]
  simp [go_sem, h, hv]
theorem run20_4 (a : Act) (w : World) (g : Nat) (t : Term) (h : a.tmps[4]? = some (.pointer (some ⟨g, 0, none⟩))) (hv : TBox w g t) : (execOp a.eval (op20 4 (by decide))).run Try.prog w = .ok (.value t.value) w := by
  unfold execOp
  rw [op20_4]
  obtain ⟨c0, c1, c2, c3, c4, c5⟩ := hv.cells
  simp [go_sem, *, Term.value]
theorem run20_5 (a : Act) (w : World) (t : Term) (h : a.tmps[109]? = some t.value) : (execOp a.eval (op20 5 (by decide))).run Try.prog w = .ok (.value (.slice (some ⟨w.heap.size, 0, none⟩) 1 1)) (w.alloc (.cells #[.string t.field, .int .i64 t.rel, .int .i64 t.kind, .string t.text, .int .i64 t.num, .bool t.tru] 47)) := by
  unfold execOp
  rw [op20_5]
  simp [go_sem, h, Term.value]
theorem run20_7 (a : Act) (w : World) (A : Option Addr) (n c : Nat) (h : a.tmps[111]? = some (.slice A n c)) : (execOp a.eval (op20 7 (by decide))).run Try.prog w = .ok (.value (.agg #[.slice A n c, .int .i64 0])) w := by
  unfold execOp
  rw [op20_7]
  simp [go_sem, h]
theorem run20_8 (a : Act) (w : World) : (execOp a.eval (op20 8 (by decide))).run Try.prog w = .ok (.value (.pointer (some ⟨w.heap.size, 0, none⟩))) (w.alloc (.cells #[.slice none 0 0, .int .i64 0] 24)) := by
  unfold execOp
  rw [op20_8]
  simp [go_sem]
theorem run20_9 (a : Act) (w : World) (g n c : Nat) (A : Option Addr) (h : a.tmps[14]? = some (.pointer (some ⟨g, 0, none⟩))) (h2 : a.tmps[112]? = some (.agg #[.slice A n c, .int .i64 0])) (hb : Blk w g (.cells #[.slice none 0 0, .int .i64 0] 24)) :
    (execOp a.eval (op20 9 (by decide))).run Try.prog w = .ok .skip ((w.setCell ⟨g, 0, none⟩ (.slice A n c)).setCell ⟨g, 1, none⟩ (.int .i64 0)) := by
  unfold execOp
  rw [op20_9]
  obtain ⟨c0, c1, f0, f1⟩ := hb.cells2
  simp [go_sem, h, h2, c0, c1, f0, f1]
theorem guard20 : ∀ (i : Nat) (h : i < 10), (op20 i h).guard = none
  | 0, _ => by kernel_rfl
  | 1, _ => by kernel_rfl
  | 2, _ => by kernel_rfl
  | 3, _ => by kernel_rfl
  | 4, _ => by kernel_rfl
  | 5, _ => by kernel_rfl
  | 6, _ => by kernel_rfl
  | 7, _ => by kernel_rfl
  | 8, _ => by kernel_rfl
  | 9, _ => by kernel_rfl
  | n + 10, h => by omega
theorem want20 (i : Nat) (h : i < 10) (y : Nat → Option Bool) : Region.wanted (op20 i h) y = true := by simp [Region.wanted, guard20 i h]

def QObj : Obj := .cells #[.slice none 0 0, .int .i64 0] 24
/-- What holds of the region's values and of the world, by what has come up. -/
structure G20 (base q : Nat) (A : Option Addr) (c : Nat) (ts : List Term) (t : Term) (w0 : World) (b : Nat → Bool) (x0 x1 x2 x3 x4 x5 x6 x7 x8 : Value) (g5 g8 : Nat) (w : World) : Prop where
  below : Below base w0 w
  f1 : b 1 = true → x1 = .pointer (some ⟨q, 0, none⟩)
  f2 : b 2 = true → x2 = .slice A ts.length c
  f4 : b 4 = true → x4 = t.value
  f5 : b 5 = true → x5 = .slice (some ⟨g5, 0, none⟩) 1 1
  f5b : b 5 = true → b 6 = false → Blk w g5 (termObj t)
  f8 : b 8 = true → x8 = .pointer (some ⟨g8, 0, none⟩)
  f8b : b 8 = true → b 9 = false → Blk w g8 QObj
  f0 : b 0 = true → b 3 = false → OwnT w base x0 [] ∧ (b 5 = true → Apart w x0 g5 (termObj t)) ∧ (b 8 = true → Apart w x0 g8 QObj)
  f3 : b 3 = true → b 6 = false → OwnT w base x3 ts ∧ (b 5 = true → Apart w x3 g5 (termObj t)) ∧ (b 8 = true → Apart w x3 g8 QObj)
  f6 : b 6 = true → b 9 = false → OwnT w base x6 (ts ++ [t]) ∧ (b 8 = true → Apart w x6 g8 QObj)
  f7 : b 7 = true → x7 = .agg #[x6, .int .i64 0]
  f9 : b 9 = true → QueryAt w g8 (ts ++ [t])
  f10 : b 8 = true → base ≤ g8
abbrev L20 (x0 x1 x2 x3 x4 x5 x6 x7 x8 : Value) : List (Nat × Tmp × Value) := [(0, 105, x0), (1, 106, x1), (2, 107, x2), (3, 108, x3), (4, 109, x4), (5, 110, x5), (6, 111, x6), (7, 112, x7), (8, 14, x8)]
def I20 (base q : Nat) (A : Option Addr) (c : Nat) (ts : List Term) (t : Term) (w0 : World) (a0 : Act) (b : Nat → Bool) (a : Act) (w : World) : Prop :=
  ∃ x0 x1 x2 x3 x4 x5 x6 x7 x8 g5 g8, a = putSel a0 b (L20 x0 x1 x2 x3 x4 x5 x6 x7 x8) ∧ G20 base q A c ts t w0 b x0 x1 x2 x3 x4 x5 x6 x7 x8 g5 g8 w

section
variable {Q : Exit → Act → World → Prop} {base q tb : Nat} {A : Option Addr} {c : Nat} {ts : List Term} {t : Term} {w0 : World} {a0 : Act}
/-- What the region is given. -/
structure In20 (base q tb : Nat) (A : Option Addr) (c : Nat) (ts : List Term) (t : Term) (w0 : World) (a0 : Act) : Prop where
  base : base = w0.heap.size
  size : 113 ≤ a0.tmps.size
  s3 : a0.tmps[3]? = some (.pointer (some ⟨q, 0, none⟩))
  s4 : a0.tmps[4]? = some (.pointer (some ⟨tb, 0, none⟩))
  cq : w0.cell? ⟨q, 0, none⟩ = some (.slice A ts.length c)
  ql : q < w0.heap.size
  tbox : TBox w0 tb t
  terms : TermsAt w0 A ts.length ts
  len : ts.length ≤ 7

theorem In20.sz (h : In20 base q tb A c ts t w0 a0) (k : Nat) (hk : k ≤ 112) : Nat.ble (k + 1) a0.tmps.size = true := Nat.ble_eq_true_of_le (by have := h.size; omega)
abbrev Step20 (Q : Exit → Act → World → Prop) (base q : Nat) (A : Option Addr) (c : Nat) (ts : List Term) (t : Term) (w0 : World) (a0 : Act) (i : Nat) : Prop := StepAt Try.prog R20 Q B20 O20 (I20 base q A c ts t w0 a0) i

theorem step20_0 (hin : In20 base q tb A c ts t w0 a0) : Step20 Q base q A c ts t w0 a0 0 := by
  rintro b a w ⟨x0, x1, x2, x3, x4, x5, x6, x7, x8, g5, g8, rfl, G⟩ hb hon hoff
  have n3 : b 3 = false := hoff 3 rfl
  have n6 : b 6 = false := hoff 6 rfl
  have n7 : b 7 = false := hoff 7 rfl
  have n9 : b 9 = false := hoff 9 rfl
  have hs : base ≤ w.heap.size := by have := G.below.size; rw [hin.base]; exact this
  refine ⟨op20 0 (by decide), at20 0 (by decide), fun K hK => value_ (N := some 105) (want20 0 _ _) (by kernel_rfl) (run20_0 _ _) (hK _ _ ⟨.slice (some ⟨w.heap.size, 0, none⟩) 0 0, x1, x2, x3, x4, x5, x6, x7, x8, g5, g8, putSel_upk 0 hb rfl rfl rfl, ?_⟩)⟩
  have bne : ∀ g o, Blk w g o → (Value.slice (some ⟨w.heap.size, 0, none⟩) 0 0).ownBlock ≠ some g := fun g o h e => by
    have h1 := (Array.getElem?_eq_some_iff.1 h).1
    simp [Value.ownBlock] at e
    omega
  refine ⟨G.below.alloc hs _, by simpa [up] using G.f1, by simpa [up] using G.f2, by simpa [up] using G.f4, by simpa [up] using G.f5, ?_, by simpa [up] using G.f8, ?_, ?_, by simp [up, n3], by simp [up, n6], by simp [up, n7], by simp [up, n9], by simpa [up] using G.f10⟩
  · simp only [up]; exact fun h5 h6 => (G.f5b h5 h6).alloc _
  · simp only [up]; exact fun h5 h6 => (G.f8b h5 h6).alloc _
  · simp only [up]
    exact fun _ _ => ⟨own_empty w base hs, fun h5 => ⟨(G.f5b h5 n6).alloc _, bne _ _ (G.f5b h5 n6)⟩, fun h8 => ⟨(G.f8b h8 n9).alloc _, bne _ _ (G.f8b h8 n9)⟩⟩

theorem step20_1 (hin : In20 base q tb A c ts t w0 a0) : Step20 Q base q A c ts t w0 a0 1 := by
  rintro b a w ⟨x0, x1, x2, x3, x4, x5, x6, x7, x8, g5, g8, rfl, G⟩ hb hon hoff
  refine ⟨op20 1 (by decide), at20 1 (by decide), fun K hK => value_ (N := some 106) (want20 1 _ _) (by kernel_rfl) (run20_1 _ _ q ((putSel_off rfl).trans hin.s3)) (hK _ _ ⟨x0, .pointer (some ⟨q, 0, none⟩), x2, x3, x4, x5, x6, x7, x8, g5, g8, putSel_upk 1 hb rfl rfl rfl, ?_⟩)⟩
  exact ⟨G.below, fun _ => rfl, by simpa [up] using G.f2, by simpa [up] using G.f4, by simpa [up] using G.f5, by simpa [up] using G.f5b, by simpa [up] using G.f8, by simpa [up] using G.f8b, by simpa [up] using G.f0, by simpa [up] using G.f3, by simpa [up] using G.f6, by simpa [up] using G.f7, by simpa [up] using G.f9, by simpa [up] using G.f10⟩

theorem step20_2 (hin : In20 base q tb A c ts t w0 a0) : Step20 Q base q A c ts t w0 a0 2 := by
  rintro b a w ⟨x0, x1, x2, x3, x4, x5, x6, x7, x8, g5, g8, rfl, G⟩ hb hon hoff
  have y1 : b 1 = true := hon 1 rfl
  have e1 := G.f1 y1
  subst e1
  have hq : w.cell? ⟨q, 0, none⟩ = some (.slice A ts.length c) := (G.below.cell (p := ⟨q, 0, none⟩) (by rw [hin.base]; exact hin.ql)).trans hin.cq
  refine ⟨op20 2 (by decide), at20 2 (by decide), fun K hK => value_ (N := some 107) (want20 2 _ _) (by kernel_rfl) (run20_2 _ _ q _ (putSel_on (e := (1, 106, .pointer (some ⟨q, 0, none⟩))) 1 rfl rfl y1 (hin.sz 106 (by decide))) hq) (hK _ _ ⟨x0, _, .slice A ts.length c, x3, x4, x5, x6, x7, x8, g5, g8, putSel_upk 2 hb rfl rfl rfl, ?_⟩)⟩
  exact ⟨G.below, by simpa [up] using G.f1, fun _ => rfl, by simpa [up] using G.f4, by simpa [up] using G.f5, by simpa [up] using G.f5b, by simpa [up] using G.f8, by simpa [up] using G.f8b, by simpa [up] using G.f0, by simpa [up] using G.f3, by simpa [up] using G.f6, by simpa [up] using G.f7, by simpa [up] using G.f9, by simpa [up] using G.f10⟩

theorem step20_3 (hin : In20 base q tb A c ts t w0 a0) : Step20 Q base q A c ts t w0 a0 3 := by
  rintro b a w ⟨x0, x1, x2, x3, x4, x5, x6, x7, x8, g5, g8, rfl, G⟩ hb hon hoff
  have y0 : b 0 = true := hon 0 rfl
  have y2 : b 2 = true := hon 2 rfl
  have n6 : b 6 = false := hoff 6 rfl
  have n7 : b 7 = false := hoff 7 rfl
  have n9 : b 9 = false := hoff 9 rfl
  have e2 := G.f2 y2
  subst e2
  obtain ⟨hO, h5, h8⟩ := G.f0 y0 hb
  have hs : base ≤ w.heap.size := by have := G.below.size; rw [hin.base]; exact this
  have hb0 := G.below
  rw [hin.base] at hb0
  refine ⟨op20 3 (by decide), at20 3 (by decide), fun K hK => ?_⟩
  refine step_append_terms (guard20 3 _) (.tmp 105) (.tmp 107) 22 op20_3 Try.underlying22 base x0 [] (eval_of (putSel_on (e := (0, 105, x0)) 0 rfl rfl y0 (hin.sz 105 (by decide)))) hO A ts.length c ts (eval_of (putSel_on (e := (2, 107, .slice A ts.length c)) 2 rfl rfl y2 (hin.sz 107 (by decide)))) (hin.terms.below hb0) (by have := hin.len; simp; omega) hs ?_
  intro A' n' c' w' hO' hb' hA'
  refine hK _ _ ⟨x0, x1, .slice A ts.length c, .slice A' n' c', x4, x5, x6, x7, x8, g5, g8, putSel_upk 3 hb rfl rfl rfl, ?_⟩
  refine ⟨G.below.trans hb', by simpa [up] using G.f1, by simp [up], by simpa [up] using G.f4, by simpa [up] using G.f5, ?_, by simpa [up] using G.f8, ?_, by simp [up], ?_, by simp [up, n6], by simp [up, n7], by simp [up, n9], by simpa [up] using G.f10⟩
  · simp only [up]; exact fun k5 _ => (hA' _ _ (h5 k5)).1
  · simp only [up]; exact fun k8 _ => (hA' _ _ (h8 k8)).1
  · simp only [up]; exact fun _ _ => ⟨hO', fun k5 => hA' _ _ (h5 k5), fun k8 => hA' _ _ (h8 k8)⟩

theorem step20_4 (hin : In20 base q tb A c ts t w0 a0) : Step20 Q base q A c ts t w0 a0 4 := by
  rintro b a w ⟨x0, x1, x2, x3, x4, x5, x6, x7, x8, g5, g8, rfl, G⟩ hb hon hoff
  have hb0 := G.below
  rw [hin.base] at hb0
  refine ⟨op20 4 (by decide), at20 4 (by decide), fun K hK => value_ (N := some 109) (want20 4 _ _) (by kernel_rfl) (run20_4 _ _ tb t ((putSel_off rfl).trans hin.s4) (hin.tbox.below hb0)) (hK _ _ ⟨x0, x1, x2, x3, t.value, x5, x6, x7, x8, g5, g8, putSel_upk 4 hb rfl rfl rfl, ?_⟩)⟩
  exact ⟨G.below, by simpa [up] using G.f1, by simpa [up] using G.f2, fun _ => rfl, by simpa [up] using G.f5, by simpa [up] using G.f5b, by simpa [up] using G.f8, by simpa [up] using G.f8b, by simpa [up] using G.f0, by simpa [up] using G.f3, by simpa [up] using G.f6, by simpa [up] using G.f7, by simpa [up] using G.f9, by simpa [up] using G.f10⟩

theorem step20_5 (hin : In20 base q tb A c ts t w0 a0) : Step20 Q base q A c ts t w0 a0 5 := by
  rintro b a w ⟨x0, x1, x2, x3, x4, x5, x6, x7, x8, g5, g8, rfl, G⟩ hb hon hoff
  have y4 : b 4 = true := hon 4 rfl
  have n6 : b 6 = false := hoff 6 rfl
  have n7 : b 7 = false := hoff 7 rfl
  have n9 : b 9 = false := hoff 9 rfl
  have e4 := G.f4 y4
  subst e4
  have hs : base ≤ w.heap.size := by have := G.below.size; rw [hin.base]; exact this
  refine ⟨op20 5 (by decide), at20 5 (by decide), fun K hK => value_ (N := some 110) (want20 5 _ _) (by kernel_rfl) (run20_5 _ _ t (putSel_on (e := (4, 109, t.value)) 4 rfl rfl y4 (hin.sz 109 (by decide)))) (hK _ _ ⟨x0, x1, x2, x3, t.value, .slice (some ⟨w.heap.size, 0, none⟩) 1 1, x6, x7, x8, w.heap.size, g8, putSel_upk 5 hb rfl rfl rfl, ?_⟩)⟩
  refine ⟨G.below.alloc hs _, by simpa [up] using G.f1, by simpa [up] using G.f2, by simp [up], by simp [up], ?_, by simpa [up] using G.f8, ?_, ?_, ?_, by simp [up, n6], by simp [up, n7], by simp [up, n9], by simpa [up] using G.f10⟩
  · simp only [up]; exact fun _ _ => Blk.new w (termObj t)
  · simp only [up]; exact fun h5 h6 => (G.f8b h5 h6).alloc _
  · simp only [up]
    intro k0 k3
    obtain ⟨hO, _, h8⟩ := G.f0 k0 k3
    exact ⟨hO.alloc _, fun _ => Apart.new hO (termObj t), fun k8 => (h8 k8).alloc _⟩
  · simp only [up]
    intro k3 k6
    obtain ⟨hO, _, h8⟩ := G.f3 k3 k6
    exact ⟨hO.alloc _, fun _ => Apart.new hO (termObj t), fun k8 => (h8 k8).alloc _⟩

theorem step20_6 (hin : In20 base q tb A c ts t w0 a0) : Step20 Q base q A c ts t w0 a0 6 := by
  rintro b a w ⟨x0, x1, x2, x3, x4, x5, x6, x7, x8, g5, g8, rfl, G⟩ hb hon hoff
  have y3 : b 3 = true := hon 3 rfl
  have y5 : b 5 = true := hon 5 rfl
  have n7 : b 7 = false := hoff 7 rfl
  have n9 : b 9 = false := hoff 9 rfl
  have e5 := G.f5 y5
  subst e5
  obtain ⟨hO, h5, h8⟩ := G.f3 y3 hb
  have hs : base ≤ w.heap.size := by have := G.below.size; rw [hin.base]; exact this
  refine ⟨op20 6 (by decide), at20 6 (by decide), fun K hK => ?_⟩
  refine step_append_terms (guard20 6 _) (.tmp 108) (.tmp 110) 22 op20_6 Try.underlying22 base x3 ts (eval_of (putSel_on (e := (3, 108, x3)) 3 rfl rfl y3 (hin.sz 108 (by decide)))) hO (some ⟨g5, 0, none⟩) 1 1 [t] (eval_of (putSel_on (e := (5, 110, .slice (some ⟨g5, 0, none⟩) 1 1)) 5 rfl rfl y5 (hin.sz 110 (by decide)))) (Blk.terms (h5 y5).1) (by have := hin.len; omega) hs ?_
  intro A' n' c' w' hO' hb' hA'
  refine hK _ _ ⟨x0, x1, x2, x3, x4, .slice (some ⟨g5, 0, none⟩) 1 1, .slice A' n' c', x7, x8, g5, g8, putSel_upk 6 hb rfl rfl rfl, ?_⟩
  refine ⟨G.below.trans hb', by simpa [up] using G.f1, by simpa [up] using G.f2, by simpa [up] using G.f4, by simp [up], by simp [up], by simpa [up] using G.f8, ?_, ?_, by simp [up], ?_, by simp [up, n7], by simp [up, n9], by simpa [up] using G.f10⟩
  · simp only [up]; exact fun k8 _ => (hA' _ _ (h8 k8)).1
  · simp [up, y3]
  · simp only [up]; exact fun _ _ => ⟨hO', fun k8 => hA' _ _ (h8 k8)⟩

theorem step20_7 (hin : In20 base q tb A c ts t w0 a0) : Step20 Q base q A c ts t w0 a0 7 := by
  rintro b a w ⟨x0, x1, x2, x3, x4, x5, x6, x7, x8, g5, g8, rfl, G⟩ hb hon hoff
  have y6 : b 6 = true := hon 6 rfl
  have n9 : b 9 = false := hoff 9 rfl
  obtain ⟨hO, _⟩ := G.f6 y6 n9
  obtain ⟨A', c', e6, _⟩ := hO.terms (by have := hin.len; simp; omega)
  subst e6
  refine ⟨op20 7 (by decide), at20 7 (by decide), fun K hK => value_ (N := some 112) (want20 7 _ _) (by kernel_rfl) (run20_7 _ _ A' _ c' (putSel_on (e := (6, 111, .slice A' (ts ++ [t]).length c')) 6 rfl rfl y6 (hin.sz 111 (by decide)))) (hK _ _ ⟨x0, x1, x2, x3, x4, x5, _, .agg #[.slice A' (ts ++ [t]).length c', .int .i64 0], x8, g5, g8, putSel_upk 7 hb rfl rfl rfl, ?_⟩)⟩
  exact ⟨G.below, by simpa [up] using G.f1, by simpa [up] using G.f2, by simpa [up] using G.f4, by simpa [up] using G.f5, by simpa [up] using G.f5b, by simpa [up] using G.f8, by simpa [up] using G.f8b, by simpa [up] using G.f0, by simpa [up] using G.f3, by simpa [up] using G.f6, fun _ => rfl, by simpa [up] using G.f9, by simpa [up] using G.f10⟩

theorem step20_8 (hin : In20 base q tb A c ts t w0 a0) : Step20 Q base q A c ts t w0 a0 8 := by
  rintro b a w ⟨x0, x1, x2, x3, x4, x5, x6, x7, x8, g5, g8, rfl, G⟩ hb hon hoff
  have n9 : b 9 = false := hoff 9 rfl
  have hs : base ≤ w.heap.size := by have := G.below.size; rw [hin.base]; exact this
  refine ⟨op20 8 (by decide), at20 8 (by decide), fun K hK => value_ (N := some 14) (want20 8 _ _) (by kernel_rfl) (run20_8 _ _) (hK _ _ ⟨x0, x1, x2, x3, x4, x5, x6, x7, .pointer (some ⟨w.heap.size, 0, none⟩), g5, w.heap.size, putSel_upk 8 hb rfl rfl rfl, ?_⟩)⟩
  refine ⟨G.below.alloc hs _, by simpa [up] using G.f1, by simpa [up] using G.f2, by simpa [up] using G.f4, by simpa [up] using G.f5, ?_, by simp [up], ?_, ?_, ?_, ?_, by simpa [up] using G.f7, by simp [up, n9], fun _ => hs⟩
  · simp only [up]; exact fun h5 h6 => (G.f5b h5 h6).alloc _
  · simp only [up]; exact fun _ _ => Blk.new w QObj
  · simp only [up]
    intro k0 k3
    obtain ⟨hO, h5, _⟩ := G.f0 k0 k3
    exact ⟨hO.alloc _, fun k5 => (h5 k5).alloc _, fun _ => Apart.new hO QObj⟩
  · simp only [up]
    intro k3 k6
    obtain ⟨hO, h5, _⟩ := G.f3 k3 k6
    exact ⟨hO.alloc _, fun k5 => (h5 k5).alloc _, fun _ => Apart.new hO QObj⟩
  · simp only [up]
    intro k6 k9
    obtain ⟨hO, _⟩ := G.f6 k6 k9
    exact ⟨hO.alloc _, fun _ => Apart.new hO QObj⟩

theorem step20_9 (hin : In20 base q tb A c ts t w0 a0) : Step20 Q base q A c ts t w0 a0 9 := by
  rintro b a w ⟨x0, x1, x2, x3, x4, x5, x6, x7, x8, g5, g8, rfl, G⟩ hb hon hoff
  have y0 : b 0 = true := hon 0 rfl
  have y3 : b 3 = true := hon 3 rfl
  have y5 : b 5 = true := hon 5 rfl
  have y6 : b 6 = true := hon 6 rfl
  have y7 : b 7 = true := hon 7 rfl
  have y8 : b 8 = true := hon 8 rfl
  have e7 := G.f7 y7
  have e8 := G.f8 y8
  subst e7 e8
  obtain ⟨hO, hA⟩ := G.f6 y6 hb
  have hm : (ts ++ [t]).length ≤ 9223372036854775807 := by have := hin.len; simp; omega
  obtain ⟨A', c', e6, _⟩ := hO.terms hm
  subst e6
  have hge : base ≤ g8 := G.f10 y8
  refine ⟨op20 9 (by decide), at20 9 (by decide), fun K hK => skip_ (want20 9 _ _) (by kernel_rfl) (run20_9 _ _ g8 _ c' A' (putSel_on (e := (8, 14, .pointer (some ⟨g8, 0, none⟩))) 8 rfl rfl y8 (hin.sz 14 (by decide))) (putSel_on (e := (7, 112, .agg #[.slice A' (ts ++ [t]).length c', .int .i64 0])) 7 rfl rfl y7 (hin.sz 112 (by decide))) (G.f8b y8 hb)) (hK _ _ ⟨x0, x1, x2, x3, x4, x5, .slice A' (ts ++ [t]).length c', _, _, g5, g8, (putSel_same rfl).symm, ?_⟩)⟩
  refine ⟨(G.below.setCell hge _).setCell hge _, by simpa [up] using G.f1, by simpa [up] using G.f2, by simpa [up] using G.f4, by simpa [up] using G.f5, by simp [up, y6], by simp [up], by simp [up], by simp [up, y3], by simp [up, y6], by simp [up], by simp [up], ?_, fun _ => hge⟩
  intro _
  exact Apart.query (hA y8) hO hm

/-- THE REGION: whatever the order, a query's block with the terms and one more. -/
theorem region20 {id : Nat} {ops : Array Oper} (hops : ops = R20) (hin : In20 base q tb A c ts t w0 a0)
    (hQ : ∀ x0 x1 x2 x3 x4 x5 x6 x7 g w', QueryAt w' g (ts ++ [t]) → Below base w0 w' → Q .normal (((((((((a0.put (some 105) x0).put (some 106) x1).put (some 107) x2).put (some 108) x3).put (some 109) x4).put (some 110) x5).put (some 111) x6).put (some 112) x7).put (some 14) (.pointer (some ⟨g, 0, none⟩))) w') :
    (Code.region id ops true).wp Try.prog Q a0 w0 := by
  subst hops
  refine start_ (S := fun _ => True) (ds := []) (n := 10) (Array.replicate 10 false) (by kernel_rfl) size20 rfl trivial (fun _ => ?_)
  refine inv_ (T := rtab .any R20) (B := B20) O20 (I20 base q A c ts t w0 a0) rfl waits20 base20 (by kernel_rfl) ?_ ?_ ?_
  · refine ⟨undef, undef, undef, undef, undef, undef, undef, undef, undef, 0, 0, by simp [putSel], ?_⟩
    have hb : Below base w0 w0.drew := by rw [hin.base]; exact (Below.refl _ _).drew
    exact ⟨hb, by simp, by simp, by simp, by simp, by simp, by simp, by simp, by simp, by simp, by simp, by simp, by simp, by simp⟩
  · exact steps_cons (step20_0 hin) (steps_cons (step20_1 hin) (steps_cons (step20_2 hin) (steps_cons (step20_3 hin) (steps_cons (step20_4 hin) (steps_cons (step20_5 hin) (steps_cons (step20_6 hin) (steps_cons (step20_7 hin) (steps_cons (step20_8 hin) (steps_cons (step20_9 hin) steps_nil)))))))))
  · rintro b a w hall ⟨x0, x1, x2, x3, x4, x5, x6, x7, x8, g5, g8, rfl, G⟩
    have e8 := G.f8 (hall 8 rfl)
    subst e8
    have h := hQ x0 x1 x2 x3 x4 x5 x6 x7 g8 w (G.f9 (hall 9 rfl)) G.below
    simpa [putSel, hall 0 rfl, hall 1 rfl, hall 2 rfl, hall 3 rfl, hall 4 rfl, hall 5 rfl, hall 6 rfl, hall 7 rfl, hall 8 rfl] using h
end
end Go.Proofs.Ytmckgcooehdbaaa
