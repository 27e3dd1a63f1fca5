/- The regions of PlanMisses' law that draw their order, each operation shown once (XT0). No condition beyond those that each theorem names. -/
import Derived.Test.YtmckgcooehdbaaaF8
import Derived.Test.YtmckgcooehdbaaaG1
set_option linter.unusedVariables false
set_option linter.unusedSimpArgs false
set_option linter.unnecessarySimpa false
namespace Go.Proofs.Ytmckgcooehdbaaa
open Go.RowKit Go.Proofs.YtmckgcooehdbaaaW.PrintWords Go.Proofs.YtmckgcooehdbaaaW.PrintLast

/-- A span's eleven cells in the midst of a block. -/
structure SpanAt (w : World) (g f : Nat) (s : Span) : Prop where
  k0 : w.cell? ⟨g, f, none⟩ = some (.int .u64 s.trace)
  k1 : w.cell? ⟨g, f + 1, none⟩ = some (.int .u64 s.id)
  k2 : w.cell? ⟨g, f + 2, none⟩ = some (.int .u64 s.parent)
  k3 : w.cell? ⟨g, f + 3, none⟩ = some (.string s.service)
  k4 : w.cell? ⟨g, f + 4, none⟩ = some (.string s.op)
  k5 : w.cell? ⟨g, f + 5, none⟩ = some (.int .i64 s.start)
  k6 : w.cell? ⟨g, f + 6, none⟩ = some (.int .i64 s.dur)
  k7 : w.cell? ⟨g, f + 7, none⟩ = some (.int .i64 s.status)
  k8 : w.cell? ⟨g, f + 8, none⟩ = some (.slice s.A1 s.n1 s.c1)
  k9 : w.cell? ⟨g, f + 9, none⟩ = some (.slice s.A2 s.n2 s.c2)
  k10 : w.cell? ⟨g, f + 10, none⟩ = some (.slice s.A3 s.n3 s.c3)
theorem SpanAt.below {w w1 : World} {g f : Nat} {s : Span} (h : SpanAt w g f s) (hb : Below w.heap.size w w1) : SpanAt w1 g f s :=
  ⟨pw_cell_below hb h.k0, pw_cell_below hb h.k1, pw_cell_below hb h.k2, pw_cell_below hb h.k3, pw_cell_below hb h.k4, pw_cell_below hb h.k5, pw_cell_below hb h.k6, pw_cell_below hb h.k7, pw_cell_below hb h.k8, pw_cell_below hb h.k9, pw_cell_below hb h.k10⟩
/-- What at and Key may be asked of. -/
structure Good (w : World) (s : Span) : Prop where
  nums : SpanNums s
  caps : SpanCaps s
  rows : ∃ ats es ls, SpanRows w s ats es ls
  service : s.service.size ≤ 32
  op : s.op.size ≤ 32
theorem Good.below {w w1 : World} {s : Span} (h : Good w s) (hb : Below w.heap.size w w1) : Good w1 s := ⟨h.nums, h.caps, let ⟨a, e, l, hr⟩ := h.rows; ⟨a, e, l, hr.below hb⟩, h.service, h.op⟩
theorem Good.at_ {w : World} {s : Span} (h : Good w s) {i : Int} (hi : 0 ≤ i ∧ i ≤ 4) : Calls Try.prog 11 #[.int .i64 i, .agg #[.int .u64 s.trace, .int .u64 s.id, .int .u64 s.parent, .string s.service, .string s.op, .int .i64 s.start, .int .i64 s.dur, .int .i64 s.status, .slice s.A1 s.n1 s.c1, .slice s.A2 s.n2 s.c2, .slice s.A3 s.n3 s.c3]] w fun e w' => TellsRow (atB i s) w e w' := by
  obtain ⟨a, e, l, hr⟩ := h.rows
  exact at_any i s w h.nums hr h.caps h.service h.op hi
theorem Good.key_ {w : World} {s : Span} (h : Good w s) (o : Int) : Calls Try.prog 14 #[.int .i64 o, .agg #[.int .u64 s.trace, .int .u64 s.id, .int .u64 s.parent, .string s.service, .string s.op, .int .i64 s.start, .int .i64 s.dur, .int .i64 s.status, .slice s.A1 s.n1 s.c1, .slice s.A2 s.n2 s.c2, .slice s.A3 s.n3 s.c3]] w fun e w' => TellsRow (orderB o s) w e w' := by
  obtain ⟨a, e, l, hr⟩ := h.rows
  exact order_any o s w h.nums hr h.caps
theorem Asked.below {ts : List Term} {s : Span} {w w1 : World} (h : Asked ts s w) (hb : Below w.heap.size w w1) : Asked ts s w1 := fun t ht w' hb' => h t ht w' (below_then hb hb.size hb')
def S1 (w w' : World) : Prop := Below w.heap.size w w'
theorem hR1 (w : World) : S1 w w := Below.refl _ _
theorem hT1 (a b c : World) (h1 : S1 a b) (h2 : S1 b c) : S1 a c := below_then h1 h1.size h2
noncomputable def RK : Array Oper := opsOf Try.f3 11
def BK : List Nat := [0, 1, 0, 4, 12, 31, 63]
theorem waitsK : waitsOk (rtab .any RK).2 BK = true := by kernel_rfl
theorem baseK : baseOk (rtab .any RK).2 (List.range 7) = true := by kernel_rfl
theorem guardsK : guardsOk RK BK = true := by kernel_rfl
theorem sizeK : RK.size = 7 := by kernel_rfl
theorem oneK : decide (((dstsOf RK).map (·.1)).Nodup) = true := by kernel_rfl
theorem twoK : decide (((dstsOf RK).map (·.2)).Nodup) = true := by kernel_rfl
theorem dstsK : dstsOf RK = [(0, 59), (1, 60), (2, 61), (3, 62), (4, 63), (5, 64), (6, 9)] := by kernel_rfl
theorem atK (i : Nat) (h : i < 7) : RK[i]? = some (RK[i]'(sizeK ▸ h)) := Array.getElem?_eq_getElem _
noncomputable abbrev Kop (i : Nat) (h : i < 7) : Oper := RK[i]'(sizeK ▸ h)
def VK (gp g i f : Nat) (x0 : Int) (s : Span) : Nat → Value → World → Prop
  | 0, v, w => v = .pointer (some ⟨gp, 0, none⟩)
  | 1, v, w => v = .int .i64 x0
  | 2, v, w => v = .int .i64 i
  | 3, v, w => v = .pointer (some ⟨g, f, none⟩)
  | 4, v, w => v = .agg #[.int .u64 s.trace, .int .u64 s.id, .int .u64 s.parent, .string s.service, .string s.op, .int .i64 s.start, .int .i64 s.dur, .int .i64 s.status, .slice s.A1 s.n1 s.c1, .slice s.A2 s.n2 s.c2, .slice s.A3 s.n3 s.c3]
  | 5, v, w => ReadV w v (atB x0 s)
  | 6, v, w => ReadV w v (atB x0 s)
  | _, _, _ => True
structure InK (w0 : World) (a0 : Act) (gp g i f : Nat) (x0 : Int) (s : Span) : Prop where
  s5 : a0.tmps[5]? = some (.pointer (some ⟨g, 0, none⟩))
  s7 : a0.tmps[7]? = some (.pointer (some ⟨gp, 0, none⟩))
  s8 : a0.tmps[8]? = some (.int .i64 i)
  p0 : w0.cell? ⟨gp, 0, none⟩ = some (.int .i64 x0)
  fi : (i = 0 ∧ f = 0) ∨ (i = 1 ∧ f = 11)
  sp : SpanAt w0 g f s
  good : Good w0 s
  ix : 0 ≤ x0 ∧ x0 ≤ 4
section
variable {Q : Exit → Act → World → Prop} {w0 : World} {a0 : Act} {gp g i f : Nat} {x0 : Int} {s : Span}
theorem K_0 (hin : InK w0 a0 gp g i f x0 s) : Ob Try.prog RK Q BK a0 S1 w0 (VK gp g i f x0 s) 0 := by
  intro o x a w ho hB hd hu hs hf hw K hK
  obtain rfl : Kop 0 (by decide) = o := Option.some.inj ((atK 0 (by decide)).symm.trans ho)
  have t7 := (hf 7 (by kernel_rfl)).trans hin.s7
  have hrun : (execOp a.eval (Kop 0 (by decide))).run Try.prog w = .ok (.value (.pointer (some ⟨gp, 0, none⟩))) w := by
    unfold execOp
    rw [show (Kop 0 (by decide)).op = .fieldAddr 38 (.tmp 7) 0 from by kernel_rfl]
    simp [go_sem, t7]
  exact wp_val hrun (hK _ _ (hR1 _) (rfl))

theorem K_1 (hin : InK w0 a0 gp g i f x0 s) : Ob Try.prog RK Q BK a0 S1 w0 (VK gp g i f x0 s) 1 := by
  intro o x a w ho hB hd hu hs hf hw K hK
  obtain rfl : Kop 1 (by decide) = o := Option.some.inj ((atK 1 (by decide)).symm.trans ho)
  have t59 := hs 0 59 _ (atK 0 (by decide)) (by kernel_rfl) rfl
  have d59 : x 0 = .pointer (some ⟨gp, 0, none⟩) := hd 0 _ (atK 0 (by decide)) rfl (wants_none (by kernel_rfl))
  rw [d59] at t59
  have hc := pw_cell_below hB hin.p0
  have hrun : (execOp a.eval (Kop 1 (by decide))).run Try.prog w = .ok (.value (.int .i64 x0)) w := by
    unfold execOp
    rw [show (Kop 1 (by decide)).op = .load 3 (.tmp 59) from by kernel_rfl]
    simp [go_sem, t59, hc]
  exact wp_val hrun (hK _ _ (hR1 _) (rfl))

theorem K_2 (hin : InK w0 a0 gp g i f x0 s) : Ob Try.prog RK Q BK a0 S1 w0 (VK gp g i f x0 s) 2 := by
  intro o x a w ho hB hd hu hs hf hw K hK
  obtain rfl : Kop 2 (by decide) = o := Option.some.inj ((atK 2 (by decide)).symm.trans ho)
  have t8 := (hf 8 (by kernel_rfl)).trans hin.s8
  have hrun : (execOp a.eval (Kop 2 (by decide))).run Try.prog w = .ok (.value (.int .i64 i)) w := by
    unfold execOp
    rw [show (Kop 2 (by decide)).op = .move (.tmp 8) from by kernel_rfl]
    simp [go_sem, t8]
  exact wp_val hrun (hK _ _ (hR1 _) (rfl))

theorem K_3 (hin : InK w0 a0 gp g i f x0 s) : Ob Try.prog RK Q BK a0 S1 w0 (VK gp g i f x0 s) 3 := by
  intro o x a w ho hB hd hu hs hf hw K hK
  obtain rfl : Kop 3 (by decide) = o := Option.some.inj ((atK 3 (by decide)).symm.trans ho)
  have t61 := hs 2 61 _ (atK 2 (by decide)) (by kernel_rfl) rfl
  have d61 : x 2 = .int .i64 i := hd 2 _ (atK 2 (by decide)) rfl (wants_none (by kernel_rfl))
  rw [d61] at t61
  have h5 := (hf 5 (by kernel_rfl)).trans hin.s5
  have hrun : (execOp a.eval (Kop 3 (by decide))).run Try.prog w = .ok (.value (.pointer (some ⟨g, f, none⟩))) w := by
    unfold execOp
    rw [show (Kop 3 (by decide)).op = .indexAddr 32 (.tmp 5) (.tmp 61) from by kernel_rfl]
    rcases hin.fi with ⟨hi, hf'⟩ | ⟨hi, hf'⟩
    · subst hi hf'
      simp [go_sem, t61, h5]
    · subst hi hf'
      simp [go_sem, t61, h5, Addr.add]
  exact wp_val hrun (hK _ _ (hR1 _) rfl)

theorem K_4 (hin : InK w0 a0 gp g i f x0 s) : Ob Try.prog RK Q BK a0 S1 w0 (VK gp g i f x0 s) 4 := by
  intro o x a w ho hB hd hu hs hf hw K hK
  obtain rfl : Kop 4 (by decide) = o := Option.some.inj ((atK 4 (by decide)).symm.trans ho)
  have t62 := hs 3 62 _ (atK 3 (by decide)) (by kernel_rfl) rfl
  have d62 : x 3 = .pointer (some ⟨g, f, none⟩) := hd 3 _ (atK 3 (by decide)) rfl (wants_none (by kernel_rfl))
  rw [d62] at t62
  have hsp := hin.sp.below hB
  have c0 := hsp.k0
  have c1 := hsp.k1
  have c2 := hsp.k2
  have c3 := hsp.k3
  have c4 := hsp.k4
  have c5 := hsp.k5
  have c6 := hsp.k6
  have c7 := hsp.k7
  have c8 := hsp.k8
  have c9 := hsp.k9
  have c10 := hsp.k10
  have hrun : (execOp a.eval (Kop 4 (by decide))).run Try.prog w = .ok (.value (.agg #[.int .u64 s.trace, .int .u64 s.id, .int .u64 s.parent, .string s.service, .string s.op, .int .i64 s.start, .int .i64 s.dur, .int .i64 s.status, .slice s.A1 s.n1 s.c1, .slice s.A2 s.n2 s.c2, .slice s.A3 s.n3 s.c3])) w := by
    unfold execOp
    rw [show (Kop 4 (by decide)).op = .load 31 (.tmp 62) from by kernel_rfl]
    simp [go_sem, t62, c0, c1, c2, c3, c4, c5, c6, c7, c8, c9, c10, Nat.zero_add]
  exact wp_val hrun (hK _ _ (hR1 _) (rfl))

theorem K_5 (hin : InK w0 a0 gp g i f x0 s) : Ob Try.prog RK Q BK a0 S1 w0 (VK gp g i f x0 s) 5 := by
  intro o x a w ho hB hd hu hs hf hw K hK
  obtain rfl : Kop 5 (by decide) = o := Option.some.inj ((atK 5 (by decide)).symm.trans ho)
  have t60 := hs 1 60 _ (atK 1 (by decide)) (by kernel_rfl) rfl
  have d60 : x 1 = .int .i64 x0 := hd 1 _ (atK 1 (by decide)) rfl (wants_none (by kernel_rfl))
  rw [d60] at t60
  have t63 := hs 4 63 _ (atK 4 (by decide)) (by kernel_rfl) rfl
  have d63 : x 4 = .agg #[.int .u64 s.trace, .int .u64 s.id, .int .u64 s.parent, .string s.service, .string s.op, .int .i64 s.start, .int .i64 s.dur, .int .i64 s.status, .slice s.A1 s.n1 s.c1, .slice s.A2 s.n2 s.c2, .slice s.A3 s.n3 s.c3] := hd 4 _ (atK 4 (by decide)) rfl (wants_none (by kernel_rfl))
  rw [d63] at t63
  refine wp_calls (ats := #[.tmp 60, .tmp 63]) (ts := #[3, 31]) Try.func11 (by kernel_rfl) (by kernel_rfl) #[.int .i64 x0, .agg #[.int .u64 s.trace, .int .u64 s.id, .int .u64 s.parent, .string s.service, .string s.op, .int .i64 s.start, .int .i64 s.dur, .int .i64 s.status, .slice s.A1 s.n1 s.c1, .slice s.A2 s.n2 s.c2, .slice s.A3 s.n3 s.c3]] (by kernel_rfl) (by simp [Act.eval, t60, t63]) ?_
  refine ((hin.good.below hB).at_ hin.ix).mono ?_
  rintro e w' ⟨v, rfl, hv, hB'⟩
  exact ⟨_, rfl, hK _ _ hB' hv⟩

theorem K_6 (hin : InK w0 a0 gp g i f x0 s) : Ob Try.prog RK Q BK a0 S1 w0 (VK gp g i f x0 s) 6 := by
  intro o x a w ho hB hd hu hs hf hw K hK
  obtain rfl : Kop 6 (by decide) = o := Option.some.inj ((atK 6 (by decide)).symm.trans ho)
  have t64 := hs 5 64 _ (atK 5 (by decide)) (by kernel_rfl) rfl
  have d64 : ReadV w (x 5) (atB x0 s) := hd 5 _ (atK 5 (by decide)) rfl (wants_none (by kernel_rfl))
  have hrun : (execOp a.eval (Kop 6 (by decide))).run Try.prog w = .ok (.value (x 5)) w := by
    unfold execOp
    rw [show (Kop 6 (by decide)).op = .assign (.tmp 64) from by kernel_rfl]
    obtain ⟨A1, k1, e1, _, _⟩ := d64
    rw [e1] at t64 ⊢
    simp [go_sem, t64]
  exact wp_val hrun (hK _ _ (hR1 _) d64)
theorem K_all (hin : InK w0 a0 gp g i f x0 s) : ∀ j, j < 7 → Ob Try.prog RK Q BK a0 S1 w0 (VK gp g i f x0 s) j
  | 0, _ => K_0 hin
  | 1, _ => K_1 hin
  | 2, _ => K_2 hin
  | 3, _ => K_3 hin
  | 4, _ => K_4 hin
  | 5, _ => K_5 hin
  | 6, _ => K_6 hin
  | k + 7, h => by omega
theorem stableK : ∀ j v w w', S1 w w' → VK gp g i f x0 s j v w → VK gp g i f x0 s j v w' := by
  intro j v w w' hb h
  match j, h with
  | 0, h => exact h
  | 1, h => exact h
  | 2, h => exact h
  | 3, h => exact h
  | 4, h => exact h
  | 5, h => exact ReadV.below h hb
  | 6, h => exact ReadV.below h hb
  | k + 7, h => exact trivial
theorem region_K {id : Nat} {ops : Array Oper} (hops : ops = RK) (hsz : 65 ≤ a0.tmps.size) (hin : InK w0 a0 gp g i f x0 s)
    (hQ : ∀ (x : Nat → Value) w', Below w0.heap.size w0 w' → ReadV w' (x 6) (atB x0 s) → Q .normal (fullOf x a0 ([(0, 59), (1, 60), (2, 61), (3, 62), (4, 63), (5, 64), (6, 9)] : List (Nat × Tmp))) w') : (Code.region id ops true).wp Try.prog Q a0 w0 := by
  subst hops
  refine region_typed S1 BK (VK gp g i f x0 s) (by kernel_rfl) sizeK waitsK baseK guardsK oneK twoK ?_ hR1 hT1 (Below.refl _ _).drew stableK (K_all hin) ?_
  · rw [dstsK]
    intro e he
    have h2 := List.all_eq_true.1 (show (([(0, 59), (1, 60), (2, 61), (3, 62), (4, 63), (5, 64), (6, 9)] : List (Nat × Tmp)).all fun e : Nat × Tmp => decide (e.2 < 65)) = true from by decide) e he
    exact Nat.lt_of_lt_of_le (of_decide_eq_true h2) hsz
  · intro x w' hS hV
    rw [dstsK]
    exact hQ x w' hS (hV 6 _ (atK 6 (by decide)) (wants_none (by kernel_rfl)))
end
noncomputable def RL : Array Oper := opsOf Try.f3 12
def BL : List Nat := [0, 0, 2, 6, 15, 31, 63, 63, 191, 511, 1023, 2047, 4095, 8191, 16383, 32767, 65535, 65535, 196607, 524287, 1048575, 2097151, 4194303, 8388607]
theorem waitsL : waitsOk (rtab .any RL).2 BL = true := by kernel_rfl
theorem baseL : baseOk (rtab .any RL).2 (List.range 24) = true := by kernel_rfl
theorem guardsL : guardsOk RL BL = true := by kernel_rfl
theorem sizeL : RL.size = 24 := by kernel_rfl
theorem oneL : decide (((dstsOf RL).map (·.1)).Nodup) = true := by kernel_rfl
theorem twoL : decide (((dstsOf RL).map (·.2)).Nodup) = true := by kernel_rfl
theorem dstsL : dstsOf RL = [(0, 65), (1, 66), (2, 67), (3, 68), (4, 69), (5, 70), (6, 71), (7, 72), (8, 73), (9, 74), (10, 75), (11, 76), (12, 77), (13, 78), (14, 79), (15, 80), (16, 81), (17, 82), (18, 83), (19, 84), (20, 85), (21, 86), (22, 87), (23, 88)] := by kernel_rfl
theorem atL (i : Nat) (h : i < 24) : RL[i]? = some (RL[i]'(sizeL ▸ h)) := Array.getElem?_eq_getElem _
noncomputable abbrev Lop (i : Nat) (h : i < 24) : Oper := RL[i]'(sizeL ▸ h)
def VL (gp g i f n c : Nat) (A : Option Addr) (o : Int) (s : Span) (A1 A2 A3 : Option Addr) (k1 k2 k3 : Nat) (KK FF TT : List Int) (dl : Bool) (ts : List Term) : Nat → Value → World → Prop
  | 0, v, w => v = .agg #[.slice A n c, .int .i64 o]
  | 1, v, w => v = .int .i64 i
  | 2, v, w => v = .pointer (some ⟨g, f, none⟩)
  | 3, v, w => v = .agg #[.int .u64 s.trace, .int .u64 s.id, .int .u64 s.parent, .string s.service, .string s.op, .int .i64 s.start, .int .i64 s.dur, .int .i64 s.status, .slice s.A1 s.n1 s.c1, .slice s.A2 s.n2 s.c2, .slice s.A3 s.n3 s.c3]
  | 4, v, w => ∃ b : Bool, v = .bool b ∧ (b = true → (lessB KK FF || (dl && !lessB KK TT)) = false)
  | 5, v, w => ∃ b : Bool, v = .bool b ∧ (b = true → (lessB KK FF || (dl && !lessB KK TT)) = false)
  | 6, v, w => v = .slice A1 KK.length k1
  | 7, v, w => v = .pointer (some ⟨gp, 1, none⟩)
  | 8, v, w => v = .slice A2 FF.length k2
  | 9, v, w => v = .bool (lessB KK FF)
  | 10, v, w => v = .bool (lessB KK FF)
  | 11, v, w => v = .pointer (some ⟨gp, 2, none⟩)
  | 12, v, w => v = .slice A3 TT.length k3
  | 13, v, w => v = .int .i64 (TT.length : Int)
  | 14, v, w => v = .bool (dl)
  | 15, v, w => v = .bool (dl)
  | 16, v, w => v = .slice A1 KK.length k1
  | 17, v, w => v = .pointer (some ⟨gp, 2, none⟩)
  | 18, v, w => v = .slice A3 TT.length k3
  | 19, v, w => v = .bool (lessB KK TT)
  | 20, v, w => v = .bool (!lessB KK TT)
  | 21, v, w => v = .bool (dl && !lessB KK TT)
  | 22, v, w => v = .bool (lessB KK FF || (dl && !lessB KK TT))
  | 23, v, w => v = .bool false
  | _, _, _ => True
structure InL (w0 : World) (a0 : Act) (gq gp g i f n c : Nat) (A : Option Addr) (o : Int) (s : Span) (A1 A2 A3 : Option Addr) (k1 k2 k3 : Nat) (KK FF TT : List Int) (dl : Bool) (ts : List Term) : Prop where
  s3 : a0.tmps[3]? = some (.pointer (some ⟨gq, 0, none⟩))
  s5 : a0.tmps[5]? = some (.pointer (some ⟨g, 0, none⟩))
  s7 : a0.tmps[7]? = some (.pointer (some ⟨gp, 0, none⟩))
  s8 : a0.tmps[8]? = some (.int .i64 i)
  s9 : a0.tmps[9]? = some (.slice A1 KK.length k1)
  q0 : w0.cell? ⟨gq, 0, none⟩ = some (.slice A n c)
  q1 : w0.cell? ⟨gq, 1, none⟩ = some (.int .i64 o)
  p1 : w0.cell? ⟨gp, 1, none⟩ = some (.slice A2 FF.length k2)
  p2 : w0.cell? ⟨gp, 2, none⟩ = some (.slice A3 TT.length k3)
  fi : (i = 0 ∧ f = 0) ∨ (i = 1 ∧ f = 11)
  sp : SpanAt w0 g f s
  terms : TermsAt w0 A n ts
  asked : Asked ts s w0
  rK : ReadsInt w0 .u8 A1 KK.length KK
  rF : ReadsInt w0 .u8 A2 FF.length FF
  rT : ReadsInt w0 .u8 A3 TT.length TT
  dl0 : decide (0 < TT.length) = dl
  law : MatchP ts s → (lessB KK FF || (dl && !lessB KK TT)) = false
section
variable {Q : Exit → Act → World → Prop} {w0 : World} {a0 : Act} {gq gp g i f n c : Nat} {A : Option Addr} {o : Int} {s : Span} {A1 A2 A3 : Option Addr} {k1 k2 k3 : Nat} {KK FF TT : List Int} {dl : Bool} {ts : List Term}
theorem L_0 (hin : InL w0 a0 gq gp g i f n c A o s A1 A2 A3 k1 k2 k3 KK FF TT dl ts) : Ob Try.prog RL Q BL a0 S1 w0 (VL gp g i f n c A o s A1 A2 A3 k1 k2 k3 KK FF TT dl ts) 0 := by
  intro o x a w ho hB hd hu hs hf hw K hK
  obtain rfl : Lop 0 (by decide) = o := Option.some.inj ((atL 0 (by decide)).symm.trans ho)
  have t3 := (hf 3 (by kernel_rfl)).trans hin.s3
  have hc0 := pw_cell_below hB hin.q0
  have hc1 := pw_cell_below hB hin.q1
  have hrun : (execOp a.eval (Lop 0 (by decide))).run Try.prog w = .ok (.value (.agg #[.slice A n c, .int .i64 o])) w := by
    unfold execOp
    rw [show (Lop 0 (by decide)).op = .load 24 (.tmp 3) from by kernel_rfl]
    simp [go_sem, t3, hc0, hc1]
  exact wp_val hrun (hK _ _ (hR1 _) (rfl))

theorem L_1 (hin : InL w0 a0 gq gp g i f n c A o s A1 A2 A3 k1 k2 k3 KK FF TT dl ts) : Ob Try.prog RL Q BL a0 S1 w0 (VL gp g i f n c A o s A1 A2 A3 k1 k2 k3 KK FF TT dl ts) 1 := by
  intro o x a w ho hB hd hu hs hf hw K hK
  obtain rfl : Lop 1 (by decide) = o := Option.some.inj ((atL 1 (by decide)).symm.trans ho)
  have t8 := (hf 8 (by kernel_rfl)).trans hin.s8
  have hrun : (execOp a.eval (Lop 1 (by decide))).run Try.prog w = .ok (.value (.int .i64 i)) w := by
    unfold execOp
    rw [show (Lop 1 (by decide)).op = .move (.tmp 8) from by kernel_rfl]
    simp [go_sem, t8]
  exact wp_val hrun (hK _ _ (hR1 _) (rfl))

theorem L_2 (hin : InL w0 a0 gq gp g i f n c A o s A1 A2 A3 k1 k2 k3 KK FF TT dl ts) : Ob Try.prog RL Q BL a0 S1 w0 (VL gp g i f n c A o s A1 A2 A3 k1 k2 k3 KK FF TT dl ts) 2 := by
  intro o x a w ho hB hd hu hs hf hw K hK
  obtain rfl : Lop 2 (by decide) = o := Option.some.inj ((atL 2 (by decide)).symm.trans ho)
  have t66 := hs 1 66 _ (atL 1 (by decide)) (by kernel_rfl) rfl
  have d66 : x 1 = .int .i64 i := hd 1 _ (atL 1 (by decide)) rfl (wants_none (by kernel_rfl))
  rw [d66] at t66
  have h5 := (hf 5 (by kernel_rfl)).trans hin.s5
  have hrun : (execOp a.eval (Lop 2 (by decide))).run Try.prog w = .ok (.value (.pointer (some ⟨g, f, none⟩))) w := by
    unfold execOp
    rw [show (Lop 2 (by decide)).op = .indexAddr 32 (.tmp 5) (.tmp 66) from by kernel_rfl]
    rcases hin.fi with ⟨hi, hf'⟩ | ⟨hi, hf'⟩
    · subst hi hf'
      simp [go_sem, t66, h5]
    · subst hi hf'
      simp [go_sem, t66, h5, Addr.add]
  exact wp_val hrun (hK _ _ (hR1 _) rfl)

theorem L_3 (hin : InL w0 a0 gq gp g i f n c A o s A1 A2 A3 k1 k2 k3 KK FF TT dl ts) : Ob Try.prog RL Q BL a0 S1 w0 (VL gp g i f n c A o s A1 A2 A3 k1 k2 k3 KK FF TT dl ts) 3 := by
  intro o x a w ho hB hd hu hs hf hw K hK
  obtain rfl : Lop 3 (by decide) = o := Option.some.inj ((atL 3 (by decide)).symm.trans ho)
  have t67 := hs 2 67 _ (atL 2 (by decide)) (by kernel_rfl) rfl
  have d67 : x 2 = .pointer (some ⟨g, f, none⟩) := hd 2 _ (atL 2 (by decide)) rfl (wants_none (by kernel_rfl))
  rw [d67] at t67
  have hsp := hin.sp.below hB
  have c0 := hsp.k0
  have c1 := hsp.k1
  have c2 := hsp.k2
  have c3 := hsp.k3
  have c4 := hsp.k4
  have c5 := hsp.k5
  have c6 := hsp.k6
  have c7 := hsp.k7
  have c8 := hsp.k8
  have c9 := hsp.k9
  have c10 := hsp.k10
  have hrun : (execOp a.eval (Lop 3 (by decide))).run Try.prog w = .ok (.value (.agg #[.int .u64 s.trace, .int .u64 s.id, .int .u64 s.parent, .string s.service, .string s.op, .int .i64 s.start, .int .i64 s.dur, .int .i64 s.status, .slice s.A1 s.n1 s.c1, .slice s.A2 s.n2 s.c2, .slice s.A3 s.n3 s.c3])) w := by
    unfold execOp
    rw [show (Lop 3 (by decide)).op = .load 31 (.tmp 67) from by kernel_rfl]
    simp [go_sem, t67, c0, c1, c2, c3, c4, c5, c6, c7, c8, c9, c10, Nat.zero_add]
  exact wp_val hrun (hK _ _ (hR1 _) (rfl))

theorem L_4 (hin : InL w0 a0 gq gp g i f n c A o s A1 A2 A3 k1 k2 k3 KK FF TT dl ts) : Ob Try.prog RL Q BL a0 S1 w0 (VL gp g i f n c A o s A1 A2 A3 k1 k2 k3 KK FF TT dl ts) 4 := by
  intro o x a w ho hB hd hu hs hf hw K hK
  obtain rfl : Lop 4 (by decide) = o := Option.some.inj ((atL 4 (by decide)).symm.trans ho)
  have t65 := hs 0 65 _ (atL 0 (by decide)) (by kernel_rfl) rfl
  have d65 : x 0 = .agg #[.slice A n c, .int .i64 o] := hd 0 _ (atL 0 (by decide)) rfl (wants_none (by kernel_rfl))
  rw [d65] at t65
  have t68 := hs 3 68 _ (atL 3 (by decide)) (by kernel_rfl) rfl
  have d68 : x 3 = .agg #[.int .u64 s.trace, .int .u64 s.id, .int .u64 s.parent, .string s.service, .string s.op, .int .i64 s.start, .int .i64 s.dur, .int .i64 s.status, .slice s.A1 s.n1 s.c1, .slice s.A2 s.n2 s.c2, .slice s.A3 s.n3 s.c3] := hd 3 _ (atL 3 (by decide)) rfl (wants_none (by kernel_rfl))
  rw [d68] at t68
  refine wp_calls (ats := #[.tmp 65, .tmp 68]) (ts := #[24, 31]) Try.func12 (by kernel_rfl) (by kernel_rfl) #[.agg #[.slice A n c, .int .i64 o], .agg #[.int .u64 s.trace, .int .u64 s.id, .int .u64 s.parent, .string s.service, .string s.op, .int .i64 s.start, .int .i64 s.dur, .int .i64 s.status, .slice s.A1 s.n1 s.c1, .slice s.A2 s.n2 s.c2, .slice s.A3 s.n3 s.c3]] (by kernel_rfl) (by simp [Act.eval, t65, t68]) ?_
  refine (match_any A n c ts o s w (hin.terms.below hB) (hin.asked.below hB)).mono ?_
  rintro e w' ⟨b, rfl, hb, hB'⟩
  exact ⟨_, rfl, hK _ _ hB' ⟨b, rfl, fun h => hin.law (hb h)⟩⟩

theorem L_5 (hin : InL w0 a0 gq gp g i f n c A o s A1 A2 A3 k1 k2 k3 KK FF TT dl ts) : Ob Try.prog RL Q BL a0 S1 w0 (VL gp g i f n c A o s A1 A2 A3 k1 k2 k3 KK FF TT dl ts) 5 := by
  intro o x a w ho hB hd hu hs hf hw K hK
  obtain rfl : Lop 5 (by decide) = o := Option.some.inj ((atL 5 (by decide)).symm.trans ho)
  have t69 := hs 4 69 _ (atL 4 (by decide)) (by kernel_rfl) rfl
  have d69 : ∃ b : Bool, x 4 = .bool b ∧ (b = true → (lessB KK FF || (dl && !lessB KK TT)) = false) := hd 4 _ (atL 4 (by decide)) rfl (wants_none (by kernel_rfl))
  obtain ⟨b, eb, hb⟩ := d69
  rw [eb] at t69
  have hrun : (execOp a.eval (Lop 5 (by decide))).run Try.prog w = .ok (.value (.bool b)) w := by
    unfold execOp
    rw [show (Lop 5 (by decide)).op = .move (.tmp 69) from by kernel_rfl]
    simp [go_sem, t69]
  exact wp_val hrun (hK _ _ (hR1 _) ⟨b, rfl, hb⟩)

theorem L_6 (hin : InL w0 a0 gq gp g i f n c A o s A1 A2 A3 k1 k2 k3 KK FF TT dl ts) : Ob Try.prog RL Q BL a0 S1 w0 (VL gp g i f n c A o s A1 A2 A3 k1 k2 k3 KK FF TT dl ts) 6 := by
  intro o x a w ho hB hd hu hs hf hw K hK
  obtain rfl : Lop 6 (by decide) = o := Option.some.inj ((atL 6 (by decide)).symm.trans ho)
  have hg := (wants_some (show (Lop 6 (by decide)).guard = some (5, true) from by kernel_rfl)).1 hw
  have t9 := (hf 9 (by kernel_rfl)).trans hin.s9
  have hrun : (execOp a.eval (Lop 6 (by decide))).run Try.prog w = .ok (.value (.slice A1 KK.length k1)) w := by
    unfold execOp
    rw [show (Lop 6 (by decide)).op = .move (.tmp 9) from by kernel_rfl]
    simp [go_sem, t9]
  exact wp_val hrun (hK _ _ (hR1 _) (rfl))

theorem L_7 (hin : InL w0 a0 gq gp g i f n c A o s A1 A2 A3 k1 k2 k3 KK FF TT dl ts) : Ob Try.prog RL Q BL a0 S1 w0 (VL gp g i f n c A o s A1 A2 A3 k1 k2 k3 KK FF TT dl ts) 7 := by
  intro o x a w ho hB hd hu hs hf hw K hK
  obtain rfl : Lop 7 (by decide) = o := Option.some.inj ((atL 7 (by decide)).symm.trans ho)
  have hg := (wants_some (show (Lop 7 (by decide)).guard = some (5, true) from by kernel_rfl)).1 hw
  have t7 := (hf 7 (by kernel_rfl)).trans hin.s7
  have hrun : (execOp a.eval (Lop 7 (by decide))).run Try.prog w = .ok (.value (.pointer (some ⟨gp, 1, none⟩))) w := by
    unfold execOp
    rw [show (Lop 7 (by decide)).op = .fieldAddr 38 (.tmp 7) 1 from by kernel_rfl]
    simp [go_sem, t7]
  exact wp_val hrun (hK _ _ (hR1 _) (rfl))

theorem L_8 (hin : InL w0 a0 gq gp g i f n c A o s A1 A2 A3 k1 k2 k3 KK FF TT dl ts) : Ob Try.prog RL Q BL a0 S1 w0 (VL gp g i f n c A o s A1 A2 A3 k1 k2 k3 KK FF TT dl ts) 8 := by
  intro o x a w ho hB hd hu hs hf hw K hK
  obtain rfl : Lop 8 (by decide) = o := Option.some.inj ((atL 8 (by decide)).symm.trans ho)
  have hg := (wants_some (show (Lop 8 (by decide)).guard = some (5, true) from by kernel_rfl)).1 hw
  have t72 := hs 7 72 _ (atL 7 (by decide)) (by kernel_rfl) rfl
  have d72 : x 7 = .pointer (some ⟨gp, 1, none⟩) := hd 7 _ (atL 7 (by decide)) rfl ((wants_some (by kernel_rfl)).2 hg)
  rw [d72] at t72
  have hc := pw_cell_below hB hin.p1
  have hrun : (execOp a.eval (Lop 8 (by decide))).run Try.prog w = .ok (.value (.slice A2 FF.length k2)) w := by
    unfold execOp
    rw [show (Lop 8 (by decide)).op = .load 36 (.tmp 72) from by kernel_rfl]
    simp [go_sem, t72, hc]
  exact wp_val hrun (hK _ _ (hR1 _) (rfl))

theorem L_9 (hin : InL w0 a0 gq gp g i f n c A o s A1 A2 A3 k1 k2 k3 KK FF TT dl ts) : Ob Try.prog RL Q BL a0 S1 w0 (VL gp g i f n c A o s A1 A2 A3 k1 k2 k3 KK FF TT dl ts) 9 := by
  intro o x a w ho hB hd hu hs hf hw K hK
  obtain rfl : Lop 9 (by decide) = o := Option.some.inj ((atL 9 (by decide)).symm.trans ho)
  have hg := (wants_some (show (Lop 9 (by decide)).guard = some (5, true) from by kernel_rfl)).1 hw
  have t71 := hs 6 71 _ (atL 6 (by decide)) (by kernel_rfl) rfl
  have d71 : x 6 = .slice A1 KK.length k1 := hd 6 _ (atL 6 (by decide)) rfl ((wants_some (by kernel_rfl)).2 hg)
  rw [d71] at t71
  have t73 := hs 8 73 _ (atL 8 (by decide)) (by kernel_rfl) rfl
  have d73 : x 8 = .slice A2 FF.length k2 := hd 8 _ (atL 8 (by decide)) rfl ((wants_some (by kernel_rfl)).2 hg)
  rw [d73] at t73
  refine wp_calls (ats := #[.tmp 71, .tmp 73]) (ts := #[36, 36]) Try.func13 (by kernel_rfl) (by kernel_rfl) #[.slice A1 KK.length k1, .slice A2 FF.length k2] (by kernel_rfl) (by simp [Act.eval, t71, t73]) ?_
  refine (less_any _ _ _ _ _ _ _ _ _ (hin.rK.below hB) (hin.rF.below hB)).mono ?_
  rintro e w' ⟨rfl, hd'⟩
  exact ⟨_, rfl, hK _ _ hd'.below rfl⟩

theorem L_10 (hin : InL w0 a0 gq gp g i f n c A o s A1 A2 A3 k1 k2 k3 KK FF TT dl ts) : Ob Try.prog RL Q BL a0 S1 w0 (VL gp g i f n c A o s A1 A2 A3 k1 k2 k3 KK FF TT dl ts) 10 := by
  intro o x a w ho hB hd hu hs hf hw K hK
  obtain rfl : Lop 10 (by decide) = o := Option.some.inj ((atL 10 (by decide)).symm.trans ho)
  have hg := (wants_some (show (Lop 10 (by decide)).guard = some (5, true) from by kernel_rfl)).1 hw
  have t74 := hs 9 74 _ (atL 9 (by decide)) (by kernel_rfl) rfl
  have d74 : x 9 = .bool (lessB KK FF) := hd 9 _ (atL 9 (by decide)) rfl ((wants_some (by kernel_rfl)).2 hg)
  rw [d74] at t74
  have hrun : (execOp a.eval (Lop 10 (by decide))).run Try.prog w = .ok (.value (.bool (lessB KK FF))) w := by
    unfold execOp
    rw [show (Lop 10 (by decide)).op = .move (.tmp 74) from by kernel_rfl]
    simp [go_sem, t74]
  exact wp_val hrun (hK _ _ (hR1 _) (rfl))

theorem L_11 (hin : InL w0 a0 gq gp g i f n c A o s A1 A2 A3 k1 k2 k3 KK FF TT dl ts) : Ob Try.prog RL Q BL a0 S1 w0 (VL gp g i f n c A o s A1 A2 A3 k1 k2 k3 KK FF TT dl ts) 11 := by
  intro o x a w ho hB hd hu hs hf hw K hK
  obtain rfl : Lop 11 (by decide) = o := Option.some.inj ((atL 11 (by decide)).symm.trans ho)
  have hg := (wants_some (show (Lop 11 (by decide)).guard = some (10, false) from by kernel_rfl)).1 hw
  have t7 := (hf 7 (by kernel_rfl)).trans hin.s7
  have hrun : (execOp a.eval (Lop 11 (by decide))).run Try.prog w = .ok (.value (.pointer (some ⟨gp, 2, none⟩))) w := by
    unfold execOp
    rw [show (Lop 11 (by decide)).op = .fieldAddr 38 (.tmp 7) 2 from by kernel_rfl]
    simp [go_sem, t7]
  exact wp_val hrun (hK _ _ (hR1 _) (rfl))

theorem L_12 (hin : InL w0 a0 gq gp g i f n c A o s A1 A2 A3 k1 k2 k3 KK FF TT dl ts) : Ob Try.prog RL Q BL a0 S1 w0 (VL gp g i f n c A o s A1 A2 A3 k1 k2 k3 KK FF TT dl ts) 12 := by
  intro o x a w ho hB hd hu hs hf hw K hK
  obtain rfl : Lop 12 (by decide) = o := Option.some.inj ((atL 12 (by decide)).symm.trans ho)
  have hg := (wants_some (show (Lop 12 (by decide)).guard = some (10, false) from by kernel_rfl)).1 hw
  have t76 := hs 11 76 _ (atL 11 (by decide)) (by kernel_rfl) rfl
  have d76 : x 11 = .pointer (some ⟨gp, 2, none⟩) := hd 11 _ (atL 11 (by decide)) rfl ((wants_some (by kernel_rfl)).2 hg)
  rw [d76] at t76
  have hc := pw_cell_below hB hin.p2
  have hrun : (execOp a.eval (Lop 12 (by decide))).run Try.prog w = .ok (.value (.slice A3 TT.length k3)) w := by
    unfold execOp
    rw [show (Lop 12 (by decide)).op = .load 36 (.tmp 76) from by kernel_rfl]
    simp [go_sem, t76, hc]
  exact wp_val hrun (hK _ _ (hR1 _) (rfl))

theorem L_13 (hin : InL w0 a0 gq gp g i f n c A o s A1 A2 A3 k1 k2 k3 KK FF TT dl ts) : Ob Try.prog RL Q BL a0 S1 w0 (VL gp g i f n c A o s A1 A2 A3 k1 k2 k3 KK FF TT dl ts) 13 := by
  intro o x a w ho hB hd hu hs hf hw K hK
  obtain rfl : Lop 13 (by decide) = o := Option.some.inj ((atL 13 (by decide)).symm.trans ho)
  have hg := (wants_some (show (Lop 13 (by decide)).guard = some (10, false) from by kernel_rfl)).1 hw
  have t77 := hs 12 77 _ (atL 12 (by decide)) (by kernel_rfl) rfl
  have d77 : x 12 = .slice A3 TT.length k3 := hd 12 _ (atL 12 (by decide)) rfl ((wants_some (by kernel_rfl)).2 hg)
  rw [d77] at t77
  have hrun : (execOp a.eval (Lop 13 (by decide))).run Try.prog w = .ok (.value (.int .i64 (TT.length : Int))) w := by
    unfold execOp
    rw [show (Lop 13 (by decide)).op = .call { callee := .builtin .len, args := #[.tmp 77], argTypes := #[36] } from by kernel_rfl]
    simp [go_sem, t77]
  exact wp_val hrun (hK _ _ (hR1 _) (rfl))

theorem L_14 (hin : InL w0 a0 gq gp g i f n c A o s A1 A2 A3 k1 k2 k3 KK FF TT dl ts) : Ob Try.prog RL Q BL a0 S1 w0 (VL gp g i f n c A o s A1 A2 A3 k1 k2 k3 KK FF TT dl ts) 14 := by
  intro o x a w ho hB hd hu hs hf hw K hK
  obtain rfl : Lop 14 (by decide) = o := Option.some.inj ((atL 14 (by decide)).symm.trans ho)
  have hg := (wants_some (show (Lop 14 (by decide)).guard = some (10, false) from by kernel_rfl)).1 hw
  have t78 := hs 13 78 _ (atL 13 (by decide)) (by kernel_rfl) rfl
  have d78 : x 13 = .int .i64 (TT.length : Int) := hd 13 _ (atL 13 (by decide)) rfl ((wants_some (by kernel_rfl)).2 hg)
  rw [d78] at t78
  have hrun : (execOp a.eval (Lop 14 (by decide))).run Try.prog w = .ok (.value (.bool (dl))) w := by
    unfold execOp
    rw [show (Lop 14 (by decide)).op = .binOp .gtr 3 (.tmp 78) (.const (.int .i64 0)) 3 from by kernel_rfl]
    simp [go_sem, t78, hin.dl0]
  exact wp_val hrun (hK _ _ (hR1 _) (rfl))

theorem L_15 (hin : InL w0 a0 gq gp g i f n c A o s A1 A2 A3 k1 k2 k3 KK FF TT dl ts) : Ob Try.prog RL Q BL a0 S1 w0 (VL gp g i f n c A o s A1 A2 A3 k1 k2 k3 KK FF TT dl ts) 15 := by
  intro o x a w ho hB hd hu hs hf hw K hK
  obtain rfl : Lop 15 (by decide) = o := Option.some.inj ((atL 15 (by decide)).symm.trans ho)
  have hg := (wants_some (show (Lop 15 (by decide)).guard = some (10, false) from by kernel_rfl)).1 hw
  have t79 := hs 14 79 _ (atL 14 (by decide)) (by kernel_rfl) rfl
  have d79 : x 14 = .bool (dl) := hd 14 _ (atL 14 (by decide)) rfl ((wants_some (by kernel_rfl)).2 hg)
  rw [d79] at t79
  have hrun : (execOp a.eval (Lop 15 (by decide))).run Try.prog w = .ok (.value (.bool (dl))) w := by
    unfold execOp
    rw [show (Lop 15 (by decide)).op = .move (.tmp 79) from by kernel_rfl]
    simp [go_sem, t79]
  exact wp_val hrun (hK _ _ (hR1 _) (rfl))

theorem L_16 (hin : InL w0 a0 gq gp g i f n c A o s A1 A2 A3 k1 k2 k3 KK FF TT dl ts) : Ob Try.prog RL Q BL a0 S1 w0 (VL gp g i f n c A o s A1 A2 A3 k1 k2 k3 KK FF TT dl ts) 16 := by
  intro o x a w ho hB hd hu hs hf hw K hK
  obtain rfl : Lop 16 (by decide) = o := Option.some.inj ((atL 16 (by decide)).symm.trans ho)
  have hg := (wants_some (show (Lop 16 (by decide)).guard = some (15, true) from by kernel_rfl)).1 hw
  have t9 := (hf 9 (by kernel_rfl)).trans hin.s9
  have hrun : (execOp a.eval (Lop 16 (by decide))).run Try.prog w = .ok (.value (.slice A1 KK.length k1)) w := by
    unfold execOp
    rw [show (Lop 16 (by decide)).op = .move (.tmp 9) from by kernel_rfl]
    simp [go_sem, t9]
  exact wp_val hrun (hK _ _ (hR1 _) (rfl))

theorem L_17 (hin : InL w0 a0 gq gp g i f n c A o s A1 A2 A3 k1 k2 k3 KK FF TT dl ts) : Ob Try.prog RL Q BL a0 S1 w0 (VL gp g i f n c A o s A1 A2 A3 k1 k2 k3 KK FF TT dl ts) 17 := by
  intro o x a w ho hB hd hu hs hf hw K hK
  obtain rfl : Lop 17 (by decide) = o := Option.some.inj ((atL 17 (by decide)).symm.trans ho)
  have hg := (wants_some (show (Lop 17 (by decide)).guard = some (15, true) from by kernel_rfl)).1 hw
  have t7 := (hf 7 (by kernel_rfl)).trans hin.s7
  have hrun : (execOp a.eval (Lop 17 (by decide))).run Try.prog w = .ok (.value (.pointer (some ⟨gp, 2, none⟩))) w := by
    unfold execOp
    rw [show (Lop 17 (by decide)).op = .fieldAddr 38 (.tmp 7) 2 from by kernel_rfl]
    simp [go_sem, t7]
  exact wp_val hrun (hK _ _ (hR1 _) (rfl))

theorem L_18 (hin : InL w0 a0 gq gp g i f n c A o s A1 A2 A3 k1 k2 k3 KK FF TT dl ts) : Ob Try.prog RL Q BL a0 S1 w0 (VL gp g i f n c A o s A1 A2 A3 k1 k2 k3 KK FF TT dl ts) 18 := by
  intro o x a w ho hB hd hu hs hf hw K hK
  obtain rfl : Lop 18 (by decide) = o := Option.some.inj ((atL 18 (by decide)).symm.trans ho)
  have hg := (wants_some (show (Lop 18 (by decide)).guard = some (15, true) from by kernel_rfl)).1 hw
  have t82 := hs 17 82 _ (atL 17 (by decide)) (by kernel_rfl) rfl
  have d82 : x 17 = .pointer (some ⟨gp, 2, none⟩) := hd 17 _ (atL 17 (by decide)) rfl ((wants_some (by kernel_rfl)).2 hg)
  rw [d82] at t82
  have hc := pw_cell_below hB hin.p2
  have hrun : (execOp a.eval (Lop 18 (by decide))).run Try.prog w = .ok (.value (.slice A3 TT.length k3)) w := by
    unfold execOp
    rw [show (Lop 18 (by decide)).op = .load 36 (.tmp 82) from by kernel_rfl]
    simp [go_sem, t82, hc]
  exact wp_val hrun (hK _ _ (hR1 _) (rfl))

theorem L_19 (hin : InL w0 a0 gq gp g i f n c A o s A1 A2 A3 k1 k2 k3 KK FF TT dl ts) : Ob Try.prog RL Q BL a0 S1 w0 (VL gp g i f n c A o s A1 A2 A3 k1 k2 k3 KK FF TT dl ts) 19 := by
  intro o x a w ho hB hd hu hs hf hw K hK
  obtain rfl : Lop 19 (by decide) = o := Option.some.inj ((atL 19 (by decide)).symm.trans ho)
  have hg := (wants_some (show (Lop 19 (by decide)).guard = some (15, true) from by kernel_rfl)).1 hw
  have t81 := hs 16 81 _ (atL 16 (by decide)) (by kernel_rfl) rfl
  have d81 : x 16 = .slice A1 KK.length k1 := hd 16 _ (atL 16 (by decide)) rfl ((wants_some (by kernel_rfl)).2 hg)
  rw [d81] at t81
  have t83 := hs 18 83 _ (atL 18 (by decide)) (by kernel_rfl) rfl
  have d83 : x 18 = .slice A3 TT.length k3 := hd 18 _ (atL 18 (by decide)) rfl ((wants_some (by kernel_rfl)).2 hg)
  rw [d83] at t83
  refine wp_calls (ats := #[.tmp 81, .tmp 83]) (ts := #[36, 36]) Try.func13 (by kernel_rfl) (by kernel_rfl) #[.slice A1 KK.length k1, .slice A3 TT.length k3] (by kernel_rfl) (by simp [Act.eval, t81, t83]) ?_
  refine (less_any _ _ _ _ _ _ _ _ _ (hin.rK.below hB) (hin.rT.below hB)).mono ?_
  rintro e w' ⟨rfl, hd'⟩
  exact ⟨_, rfl, hK _ _ hd'.below rfl⟩

theorem L_20 (hin : InL w0 a0 gq gp g i f n c A o s A1 A2 A3 k1 k2 k3 KK FF TT dl ts) : Ob Try.prog RL Q BL a0 S1 w0 (VL gp g i f n c A o s A1 A2 A3 k1 k2 k3 KK FF TT dl ts) 20 := by
  intro o x a w ho hB hd hu hs hf hw K hK
  obtain rfl : Lop 20 (by decide) = o := Option.some.inj ((atL 20 (by decide)).symm.trans ho)
  have hg := (wants_some (show (Lop 20 (by decide)).guard = some (15, true) from by kernel_rfl)).1 hw
  have t84 := hs 19 84 _ (atL 19 (by decide)) (by kernel_rfl) rfl
  have d84 : x 19 = .bool (lessB KK TT) := hd 19 _ (atL 19 (by decide)) rfl ((wants_some (by kernel_rfl)).2 hg)
  rw [d84] at t84
  have hrun : (execOp a.eval (Lop 20 (by decide))).run Try.prog w = .ok (.value (.bool (!lessB KK TT))) w := by
    unfold execOp
    rw [show (Lop 20 (by decide)).op = .unOp .not 4 (.tmp 84) from by kernel_rfl]
    simp [go_sem, t84]
  exact wp_val hrun (hK _ _ (hR1 _) (rfl))

theorem L_21 (hin : InL w0 a0 gq gp g i f n c A o s A1 A2 A3 k1 k2 k3 KK FF TT dl ts) : Ob Try.prog RL Q BL a0 S1 w0 (VL gp g i f n c A o s A1 A2 A3 k1 k2 k3 KK FF TT dl ts) 21 := by
  intro o x a w ho hB hd hu hs hf hw K hK
  obtain rfl : Lop 21 (by decide) = o := Option.some.inj ((atL 21 (by decide)).symm.trans ho)
  have hg := (wants_some (show (Lop 21 (by decide)).guard = some (10, false) from by kernel_rfl)).1 hw
  have t80 := hs 15 80 _ (atL 15 (by decide)) (by kernel_rfl) rfl
  have d80 : x 15 = .bool (dl) := hd 15 _ (atL 15 (by decide)) rfl ((wants_some (by kernel_rfl)).2 hg)
  rw [d80] at t80
  have hrun : (execOp a.eval (Lop 21 (by decide))).run Try.prog w = .ok (.value (.bool (dl && !lessB KK TT))) w := by
    rcases Bool.eq_false_or_eq_true (dl) with hc | hc
    · rw [hc] at t80 d80
      have t85 := hs 20 85 _ (atL 20 (by decide)) (by kernel_rfl) rfl
      have d85 : x 20 = .bool (!lessB KK TT) := hd 20 _ (atL 20 (by decide)) rfl ((wants_some (by kernel_rfl)).2 d80)
      rw [d85] at t85
      unfold execOp
      rw [show (Lop 21 (by decide)).op = .pick (.tmp 80) (.tmp 85) (.const (.bool false)) from by kernel_rfl]
      simp [go_sem, hc, t80, t85]
    · rw [hc] at t80 d80
      unfold execOp
      rw [show (Lop 21 (by decide)).op = .pick (.tmp 80) (.tmp 85) (.const (.bool false)) from by kernel_rfl]
      simp [go_sem, hc, t80]
  exact wp_val hrun (hK _ _ (hR1 _) rfl)

theorem L_22 (hin : InL w0 a0 gq gp g i f n c A o s A1 A2 A3 k1 k2 k3 KK FF TT dl ts) : Ob Try.prog RL Q BL a0 S1 w0 (VL gp g i f n c A o s A1 A2 A3 k1 k2 k3 KK FF TT dl ts) 22 := by
  intro o x a w ho hB hd hu hs hf hw K hK
  obtain rfl : Lop 22 (by decide) = o := Option.some.inj ((atL 22 (by decide)).symm.trans ho)
  have hg := (wants_some (show (Lop 22 (by decide)).guard = some (5, true) from by kernel_rfl)).1 hw
  have t75 := hs 10 75 _ (atL 10 (by decide)) (by kernel_rfl) rfl
  have d75 : x 10 = .bool (lessB KK FF) := hd 10 _ (atL 10 (by decide)) rfl ((wants_some (by kernel_rfl)).2 hg)
  rw [d75] at t75
  have hrun : (execOp a.eval (Lop 22 (by decide))).run Try.prog w = .ok (.value (.bool (lessB KK FF || (dl && !lessB KK TT)))) w := by
    rcases Bool.eq_false_or_eq_true (lessB KK FF) with hc | hc
    · rw [hc] at t75 d75
      unfold execOp
      rw [show (Lop 22 (by decide)).op = .pick (.tmp 75) (.const (.bool true)) (.tmp 86) from by kernel_rfl]
      simp [go_sem, hc, t75]
    · rw [hc] at t75 d75
      have t86 := hs 21 86 _ (atL 21 (by decide)) (by kernel_rfl) rfl
      have d86 : x 21 = .bool (dl && !lessB KK TT) := hd 21 _ (atL 21 (by decide)) rfl ((wants_some (by kernel_rfl)).2 d75)
      rw [d86] at t86
      unfold execOp
      rw [show (Lop 22 (by decide)).op = .pick (.tmp 75) (.const (.bool true)) (.tmp 86) from by kernel_rfl]
      simp [go_sem, hc, t75, t86]
  exact wp_val hrun (hK _ _ (hR1 _) rfl)

theorem L_23 (hin : InL w0 a0 gq gp g i f n c A o s A1 A2 A3 k1 k2 k3 KK FF TT dl ts) : Ob Try.prog RL Q BL a0 S1 w0 (VL gp g i f n c A o s A1 A2 A3 k1 k2 k3 KK FF TT dl ts) 23 := by
  intro o x a w ho hB hd hu hs hf hw K hK
  obtain rfl : Lop 23 (by decide) = o := Option.some.inj ((atL 23 (by decide)).symm.trans ho)
  have t70 := hs 5 70 _ (atL 5 (by decide)) (by kernel_rfl) rfl
  have d70 : ∃ b : Bool, x 5 = .bool b ∧ (b = true → (lessB KK FF || (dl && !lessB KK TT)) = false) := hd 5 _ (atL 5 (by decide)) rfl (wants_none (by kernel_rfl))
  obtain ⟨b, eb, hb⟩ := d70
  rw [eb] at t70
  have hrun : (execOp a.eval (Lop 23 (by decide))).run Try.prog w = .ok (.value (.bool false)) w := by
    cases b
    · unfold execOp
      rw [show (Lop 23 (by decide)).op = .pick (.tmp 70) (.tmp 87) (.const (.bool false)) from by kernel_rfl]
      simp [go_sem, t70]
    · have t87 := hs 22 87 _ (atL 22 (by decide)) (by kernel_rfl) rfl
      have d87 : x 22 = .bool (lessB KK FF || (dl && !lessB KK TT)) := hd 22 _ (atL 22 (by decide)) rfl ((wants_some (by kernel_rfl)).2 eb)
      rw [d87] at t87
      rw [hb rfl] at t87
      unfold execOp
      rw [show (Lop 23 (by decide)).op = .pick (.tmp 70) (.tmp 87) (.const (.bool false)) from by kernel_rfl]
      simp [go_sem, t70, t87]
  exact wp_val hrun (hK _ _ (hR1 _) rfl)
theorem L_all (hin : InL w0 a0 gq gp g i f n c A o s A1 A2 A3 k1 k2 k3 KK FF TT dl ts) : ∀ j, j < 24 → Ob Try.prog RL Q BL a0 S1 w0 (VL gp g i f n c A o s A1 A2 A3 k1 k2 k3 KK FF TT dl ts) j
  | 0, _ => L_0 hin
  | 1, _ => L_1 hin
  | 2, _ => L_2 hin
  | 3, _ => L_3 hin
  | 4, _ => L_4 hin
  | 5, _ => L_5 hin
  | 6, _ => L_6 hin
  | 7, _ => L_7 hin
  | 8, _ => L_8 hin
  | 9, _ => L_9 hin
  | 10, _ => L_10 hin
  | 11, _ => L_11 hin
  | 12, _ => L_12 hin
  | 13, _ => L_13 hin
  | 14, _ => L_14 hin
  | 15, _ => L_15 hin
  | 16, _ => L_16 hin
  | 17, _ => L_17 hin
  | 18, _ => L_18 hin
  | 19, _ => L_19 hin
  | 20, _ => L_20 hin
  | 21, _ => L_21 hin
  | 22, _ => L_22 hin
  | 23, _ => L_23 hin
  | k + 24, h => by omega
theorem stableL : ∀ j v w w', S1 w w' → VL gp g i f n c A o s A1 A2 A3 k1 k2 k3 KK FF TT dl ts j v w → VL gp g i f n c A o s A1 A2 A3 k1 k2 k3 KK FF TT dl ts j v w' := by
  intro j v w w' hb h
  match j, h with
  | 0, h => exact h
  | 1, h => exact h
  | 2, h => exact h
  | 3, h => exact h
  | 4, h => exact h
  | 5, h => exact h
  | 6, h => exact h
  | 7, h => exact h
  | 8, h => exact h
  | 9, h => exact h
  | 10, h => exact h
  | 11, h => exact h
  | 12, h => exact h
  | 13, h => exact h
  | 14, h => exact h
  | 15, h => exact h
  | 16, h => exact h
  | 17, h => exact h
  | 18, h => exact h
  | 19, h => exact h
  | 20, h => exact h
  | 21, h => exact h
  | 22, h => exact h
  | 23, h => exact h
  | k + 24, h => exact trivial
theorem region_L {id : Nat} {ops : Array Oper} (hops : ops = RL) (hsz : 89 ≤ a0.tmps.size) (hin : InL w0 a0 gq gp g i f n c A o s A1 A2 A3 k1 k2 k3 KK FF TT dl ts)
    (hQ : ∀ (x : Nat → Value) w', Below w0.heap.size w0 w' → x 23 = .bool false → Q .normal (fullOf x a0 ([(0, 65), (1, 66), (2, 67), (3, 68), (4, 69), (5, 70), (6, 71), (7, 72), (8, 73), (9, 74), (10, 75), (11, 76), (12, 77), (13, 78), (14, 79), (15, 80), (16, 81), (17, 82), (18, 83), (19, 84), (20, 85), (21, 86), (22, 87), (23, 88)] : List (Nat × Tmp))) w') : (Code.region id ops true).wp Try.prog Q a0 w0 := by
  subst hops
  refine region_typed S1 BL (VL gp g i f n c A o s A1 A2 A3 k1 k2 k3 KK FF TT dl ts) (by kernel_rfl) sizeL waitsL baseL guardsL oneL twoL ?_ hR1 hT1 (Below.refl _ _).drew stableL (L_all hin) ?_
  · rw [dstsL]
    intro e he
    have h2 := List.all_eq_true.1 (show (([(0, 65), (1, 66), (2, 67), (3, 68), (4, 69), (5, 70), (6, 71), (7, 72), (8, 73), (9, 74), (10, 75), (11, 76), (12, 77), (13, 78), (14, 79), (15, 80), (16, 81), (17, 82), (18, 83), (19, 84), (20, 85), (21, 86), (22, 87), (23, 88)] : List (Nat × Tmp)).all fun e : Nat × Tmp => decide (e.2 < 89)) = true from by decide) e he
    exact Nat.lt_of_lt_of_le (of_decide_eq_true h2) hsz
  · intro x w' hS hV
    rw [dstsL]
    exact hQ x w' hS (hV 23 _ (atL 23 (by decide)) (wants_none (by kernel_rfl)))
end
noncomputable def RO : Array Oper := opsOf Try.f3 16
def BO : List Nat := [0, 1, 0, 4, 15, 0, 32, 0, 128, 511, 1023, 0, 2048, 0, 8192, 32767, 0, 65536, 0, 262144, 1048575, 2097151, 4194303, 8388607]
theorem waitsO : waitsOk (rtab .any RO).2 BO = true := by kernel_rfl
theorem baseO : baseOk (rtab .any RO).2 (List.range 24) = true := by kernel_rfl
theorem guardsO : guardsOk RO BO = true := by kernel_rfl
theorem sizeO : RO.size = 24 := by kernel_rfl
theorem oneO : decide (((dstsOf RO).map (·.1)).Nodup) = true := by kernel_rfl
theorem twoO : decide (((dstsOf RO).map (·.2)).Nodup) = true := by kernel_rfl
theorem dstsO : dstsOf RO = [(0, 106), (1, 107), (2, 108), (3, 109), (4, 110), (5, 111), (6, 112), (7, 113), (8, 114), (9, 115), (10, 116), (11, 117), (12, 118), (13, 119), (14, 120), (15, 121), (16, 122), (17, 123), (18, 124), (19, 125), (20, 126), (21, 127), (22, 128), (23, 6)] := by kernel_rfl
theorem atO (i : Nat) (h : i < 24) : RO[i]? = some (RO[i]'(sizeO ▸ h)) := Array.getElem?_eq_getElem _
noncomputable abbrev Oop (i : Nat) (h : i < 24) : Oper := RO[i]'(sizeO ▸ h)
def VO (gq gp g : Nat) (x0 o : Int) (s0 s1 : Span) : Nat → Value → World → Prop
  | 0, v, w => v = .pointer (some ⟨gp, 0, none⟩)
  | 1, v, w => v = .int .i64 x0
  | 2, v, w => v = .pointer (some ⟨g, 0, none⟩)
  | 3, v, w => v = .agg #[.int .u64 s0.trace, .int .u64 s0.id, .int .u64 s0.parent, .string s0.service, .string s0.op, .int .i64 s0.start, .int .i64 s0.dur, .int .i64 s0.status, .slice s0.A1 s0.n1 s0.c1, .slice s0.A2 s0.n2 s0.c2, .slice s0.A3 s0.n3 s0.c3]
  | 4, v, w => ReadV w v (atB x0 s0)
  | 5, v, w => v = .pointer (some ⟨gp, 0, none⟩)
  | 6, v, w => v = .int .i64 x0
  | 7, v, w => v = .pointer (some ⟨g, 11, none⟩)
  | 8, v, w => v = .agg #[.int .u64 s1.trace, .int .u64 s1.id, .int .u64 s1.parent, .string s1.service, .string s1.op, .int .i64 s1.start, .int .i64 s1.dur, .int .i64 s1.status, .slice s1.A1 s1.n1 s1.c1, .slice s1.A2 s1.n2 s1.c2, .slice s1.A3 s1.n3 s1.c3]
  | 9, v, w => ReadV w v (atB x0 s1)
  | 10, v, w => v = .bool (lessB (atB x0 s0) (atB x0 s1))
  | 11, v, w => v = .pointer (some ⟨gq, 1, none⟩)
  | 12, v, w => v = .int .i64 o
  | 13, v, w => v = .pointer (some ⟨g, 0, none⟩)
  | 14, v, w => v = .agg #[.int .u64 s0.trace, .int .u64 s0.id, .int .u64 s0.parent, .string s0.service, .string s0.op, .int .i64 s0.start, .int .i64 s0.dur, .int .i64 s0.status, .slice s0.A1 s0.n1 s0.c1, .slice s0.A2 s0.n2 s0.c2, .slice s0.A3 s0.n3 s0.c3]
  | 15, v, w => ReadV w v (orderB o s0)
  | 16, v, w => v = .pointer (some ⟨gq, 1, none⟩)
  | 17, v, w => v = .int .i64 o
  | 18, v, w => v = .pointer (some ⟨g, 11, none⟩)
  | 19, v, w => v = .agg #[.int .u64 s1.trace, .int .u64 s1.id, .int .u64 s1.parent, .string s1.service, .string s1.op, .int .i64 s1.start, .int .i64 s1.dur, .int .i64 s1.status, .slice s1.A1 s1.n1 s1.c1, .slice s1.A2 s1.n2 s1.c2, .slice s1.A3 s1.n3 s1.c3]
  | 20, v, w => ReadV w v (orderB o s1)
  | 21, v, w => v = .bool (lessB (orderB o s0) (orderB o s1))
  | 22, v, w => v = .bool true
  | 23, v, w => v = .bool true
  | _, _, _ => True
structure InO (w0 : World) (a0 : Act) (gq gp g : Nat) (x0 o : Int) (s0 s1 : Span) : Prop where
  s3 : a0.tmps[3]? = some (.pointer (some ⟨gq, 0, none⟩))
  s5 : a0.tmps[5]? = some (.pointer (some ⟨g, 0, none⟩))
  s7 : a0.tmps[7]? = some (.pointer (some ⟨gp, 0, none⟩))
  p0 : w0.cell? ⟨gp, 0, none⟩ = some (.int .i64 x0)
  q1 : w0.cell? ⟨gq, 1, none⟩ = some (.int .i64 o)
  sp0 : SpanAt w0 g 0 s0
  sp1 : SpanAt w0 g 11 s1
  good0 : Good w0 s0
  good1 : Good w0 s1
  ix : 0 ≤ x0 ∧ x0 ≤ 4
  law : lessB (atB x0 s0) (atB x0 s1) = lessB (orderB o s0) (orderB o s1)
section
variable {Q : Exit → Act → World → Prop} {w0 : World} {a0 : Act} {gq gp g : Nat} {x0 o : Int} {s0 s1 : Span}
theorem O_0 (hin : InO w0 a0 gq gp g x0 o s0 s1) : Ob Try.prog RO Q BO a0 S1 w0 (VO gq gp g x0 o s0 s1) 0 := by
  intro o x a w ho hB hd hu hs hf hw K hK
  obtain rfl : Oop 0 (by decide) = o := Option.some.inj ((atO 0 (by decide)).symm.trans ho)
  have t7 := (hf 7 (by kernel_rfl)).trans hin.s7
  have hrun : (execOp a.eval (Oop 0 (by decide))).run Try.prog w = .ok (.value (.pointer (some ⟨gp, 0, none⟩))) w := by
    unfold execOp
    rw [show (Oop 0 (by decide)).op = .fieldAddr 38 (.tmp 7) 0 from by kernel_rfl]
    simp [go_sem, t7]
  exact wp_val hrun (hK _ _ (hR1 _) (rfl))

theorem O_5 (hin : InO w0 a0 gq gp g x0 o s0 s1) : Ob Try.prog RO Q BO a0 S1 w0 (VO gq gp g x0 o s0 s1) 5 := by
  intro o x a w ho hB hd hu hs hf hw K hK
  obtain rfl : Oop 5 (by decide) = o := Option.some.inj ((atO 5 (by decide)).symm.trans ho)
  have t7 := (hf 7 (by kernel_rfl)).trans hin.s7
  have hrun : (execOp a.eval (Oop 5 (by decide))).run Try.prog w = .ok (.value (.pointer (some ⟨gp, 0, none⟩))) w := by
    unfold execOp
    rw [show (Oop 5 (by decide)).op = .fieldAddr 38 (.tmp 7) 0 from by kernel_rfl]
    simp [go_sem, t7]
  exact wp_val hrun (hK _ _ (hR1 _) (rfl))

theorem O_11 (hin : InO w0 a0 gq gp g x0 o s0 s1) : Ob Try.prog RO Q BO a0 S1 w0 (VO gq gp g x0 o s0 s1) 11 := by
  intro o x a w ho hB hd hu hs hf hw K hK
  obtain rfl : Oop 11 (by decide) = o := Option.some.inj ((atO 11 (by decide)).symm.trans ho)
  have t3 := (hf 3 (by kernel_rfl)).trans hin.s3
  have hrun : (execOp a.eval (Oop 11 (by decide))).run Try.prog w = .ok (.value (.pointer (some ⟨gq, 1, none⟩))) w := by
    unfold execOp
    rw [show (Oop 11 (by decide)).op = .fieldAddr 24 (.tmp 3) 1 from by kernel_rfl]
    simp [go_sem, t3]
  exact wp_val hrun (hK _ _ (hR1 _) (rfl))

theorem O_16 (hin : InO w0 a0 gq gp g x0 o s0 s1) : Ob Try.prog RO Q BO a0 S1 w0 (VO gq gp g x0 o s0 s1) 16 := by
  intro o x a w ho hB hd hu hs hf hw K hK
  obtain rfl : Oop 16 (by decide) = o := Option.some.inj ((atO 16 (by decide)).symm.trans ho)
  have t3 := (hf 3 (by kernel_rfl)).trans hin.s3
  have hrun : (execOp a.eval (Oop 16 (by decide))).run Try.prog w = .ok (.value (.pointer (some ⟨gq, 1, none⟩))) w := by
    unfold execOp
    rw [show (Oop 16 (by decide)).op = .fieldAddr 24 (.tmp 3) 1 from by kernel_rfl]
    simp [go_sem, t3]
  exact wp_val hrun (hK _ _ (hR1 _) (rfl))

theorem O_1 (hin : InO w0 a0 gq gp g x0 o s0 s1) : Ob Try.prog RO Q BO a0 S1 w0 (VO gq gp g x0 o s0 s1) 1 := by
  intro o x a w ho hB hd hu hs hf hw K hK
  obtain rfl : Oop 1 (by decide) = o := Option.some.inj ((atO 1 (by decide)).symm.trans ho)
  have t106 := hs 0 106 _ (atO 0 (by decide)) (by kernel_rfl) rfl
  have d106 : x 0 = .pointer (some ⟨gp, 0, none⟩) := hd 0 _ (atO 0 (by decide)) rfl (wants_none (by kernel_rfl))
  rw [d106] at t106
  have hc := pw_cell_below hB hin.p0
  have hrun : (execOp a.eval (Oop 1 (by decide))).run Try.prog w = .ok (.value (.int .i64 x0)) w := by
    unfold execOp
    rw [show (Oop 1 (by decide)).op = .load 3 (.tmp 106) from by kernel_rfl]
    simp [go_sem, t106, hc]
  exact wp_val hrun (hK _ _ (hR1 _) (rfl))

theorem O_6 (hin : InO w0 a0 gq gp g x0 o s0 s1) : Ob Try.prog RO Q BO a0 S1 w0 (VO gq gp g x0 o s0 s1) 6 := by
  intro o x a w ho hB hd hu hs hf hw K hK
  obtain rfl : Oop 6 (by decide) = o := Option.some.inj ((atO 6 (by decide)).symm.trans ho)
  have t111 := hs 5 111 _ (atO 5 (by decide)) (by kernel_rfl) rfl
  have d111 : x 5 = .pointer (some ⟨gp, 0, none⟩) := hd 5 _ (atO 5 (by decide)) rfl (wants_none (by kernel_rfl))
  rw [d111] at t111
  have hc := pw_cell_below hB hin.p0
  have hrun : (execOp a.eval (Oop 6 (by decide))).run Try.prog w = .ok (.value (.int .i64 x0)) w := by
    unfold execOp
    rw [show (Oop 6 (by decide)).op = .load 3 (.tmp 111) from by kernel_rfl]
    simp [go_sem, t111, hc]
  exact wp_val hrun (hK _ _ (hR1 _) (rfl))

theorem O_12 (hin : InO w0 a0 gq gp g x0 o s0 s1) : Ob Try.prog RO Q BO a0 S1 w0 (VO gq gp g x0 o s0 s1) 12 := by
  intro o x a w ho hB hd hu hs hf hw K hK
  obtain rfl : Oop 12 (by decide) = o := Option.some.inj ((atO 12 (by decide)).symm.trans ho)
  have t117 := hs 11 117 _ (atO 11 (by decide)) (by kernel_rfl) rfl
  have d117 : x 11 = .pointer (some ⟨gq, 1, none⟩) := hd 11 _ (atO 11 (by decide)) rfl (wants_none (by kernel_rfl))
  rw [d117] at t117
  have hc := pw_cell_below hB hin.q1
  have hrun : (execOp a.eval (Oop 12 (by decide))).run Try.prog w = .ok (.value (.int .i64 o)) w := by
    unfold execOp
    rw [show (Oop 12 (by decide)).op = .load 3 (.tmp 117) from by kernel_rfl]
    simp [go_sem, t117, hc]
  exact wp_val hrun (hK _ _ (hR1 _) (rfl))

theorem O_17 (hin : InO w0 a0 gq gp g x0 o s0 s1) : Ob Try.prog RO Q BO a0 S1 w0 (VO gq gp g x0 o s0 s1) 17 := by
  intro o x a w ho hB hd hu hs hf hw K hK
  obtain rfl : Oop 17 (by decide) = o := Option.some.inj ((atO 17 (by decide)).symm.trans ho)
  have t122 := hs 16 122 _ (atO 16 (by decide)) (by kernel_rfl) rfl
  have d122 : x 16 = .pointer (some ⟨gq, 1, none⟩) := hd 16 _ (atO 16 (by decide)) rfl (wants_none (by kernel_rfl))
  rw [d122] at t122
  have hc := pw_cell_below hB hin.q1
  have hrun : (execOp a.eval (Oop 17 (by decide))).run Try.prog w = .ok (.value (.int .i64 o)) w := by
    unfold execOp
    rw [show (Oop 17 (by decide)).op = .load 3 (.tmp 122) from by kernel_rfl]
    simp [go_sem, t122, hc]
  exact wp_val hrun (hK _ _ (hR1 _) (rfl))

theorem O_2 (hin : InO w0 a0 gq gp g x0 o s0 s1) : Ob Try.prog RO Q BO a0 S1 w0 (VO gq gp g x0 o s0 s1) 2 := by
  intro o x a w ho hB hd hu hs hf hw K hK
  obtain rfl : Oop 2 (by decide) = o := Option.some.inj ((atO 2 (by decide)).symm.trans ho)
  have t5 := (hf 5 (by kernel_rfl)).trans hin.s5
  have hrun : (execOp a.eval (Oop 2 (by decide))).run Try.prog w = .ok (.value (.pointer (some ⟨g, 0, none⟩))) w := by
    unfold execOp
    rw [show (Oop 2 (by decide)).op = .indexAddr 32 (.tmp 5) (.const (.int .i64 0)) from by kernel_rfl]
    simp [go_sem, t5]
  exact wp_val hrun (hK _ _ (hR1 _) (rfl))

theorem O_13 (hin : InO w0 a0 gq gp g x0 o s0 s1) : Ob Try.prog RO Q BO a0 S1 w0 (VO gq gp g x0 o s0 s1) 13 := by
  intro o x a w ho hB hd hu hs hf hw K hK
  obtain rfl : Oop 13 (by decide) = o := Option.some.inj ((atO 13 (by decide)).symm.trans ho)
  have t5 := (hf 5 (by kernel_rfl)).trans hin.s5
  have hrun : (execOp a.eval (Oop 13 (by decide))).run Try.prog w = .ok (.value (.pointer (some ⟨g, 0, none⟩))) w := by
    unfold execOp
    rw [show (Oop 13 (by decide)).op = .indexAddr 32 (.tmp 5) (.const (.int .i64 0)) from by kernel_rfl]
    simp [go_sem, t5]
  exact wp_val hrun (hK _ _ (hR1 _) (rfl))

theorem O_7 (hin : InO w0 a0 gq gp g x0 o s0 s1) : Ob Try.prog RO Q BO a0 S1 w0 (VO gq gp g x0 o s0 s1) 7 := by
  intro o x a w ho hB hd hu hs hf hw K hK
  obtain rfl : Oop 7 (by decide) = o := Option.some.inj ((atO 7 (by decide)).symm.trans ho)
  have t5 := (hf 5 (by kernel_rfl)).trans hin.s5
  have hrun : (execOp a.eval (Oop 7 (by decide))).run Try.prog w = .ok (.value (.pointer (some ⟨g, 11, none⟩))) w := by
    unfold execOp
    rw [show (Oop 7 (by decide)).op = .indexAddr 32 (.tmp 5) (.const (.int .i64 1)) from by kernel_rfl]
    simp [go_sem, t5, Addr.add]
  exact wp_val hrun (hK _ _ (hR1 _) (rfl))

theorem O_18 (hin : InO w0 a0 gq gp g x0 o s0 s1) : Ob Try.prog RO Q BO a0 S1 w0 (VO gq gp g x0 o s0 s1) 18 := by
  intro o x a w ho hB hd hu hs hf hw K hK
  obtain rfl : Oop 18 (by decide) = o := Option.some.inj ((atO 18 (by decide)).symm.trans ho)
  have t5 := (hf 5 (by kernel_rfl)).trans hin.s5
  have hrun : (execOp a.eval (Oop 18 (by decide))).run Try.prog w = .ok (.value (.pointer (some ⟨g, 11, none⟩))) w := by
    unfold execOp
    rw [show (Oop 18 (by decide)).op = .indexAddr 32 (.tmp 5) (.const (.int .i64 1)) from by kernel_rfl]
    simp [go_sem, t5, Addr.add]
  exact wp_val hrun (hK _ _ (hR1 _) (rfl))

theorem O_3 (hin : InO w0 a0 gq gp g x0 o s0 s1) : Ob Try.prog RO Q BO a0 S1 w0 (VO gq gp g x0 o s0 s1) 3 := by
  intro o x a w ho hB hd hu hs hf hw K hK
  obtain rfl : Oop 3 (by decide) = o := Option.some.inj ((atO 3 (by decide)).symm.trans ho)
  have t108 := hs 2 108 _ (atO 2 (by decide)) (by kernel_rfl) rfl
  have d108 : x 2 = .pointer (some ⟨g, 0, none⟩) := hd 2 _ (atO 2 (by decide)) rfl (wants_none (by kernel_rfl))
  rw [d108] at t108
  have hsp := hin.sp0.below hB
  have c0 := hsp.k0
  have c1 := hsp.k1
  have c2 := hsp.k2
  have c3 := hsp.k3
  have c4 := hsp.k4
  have c5 := hsp.k5
  have c6 := hsp.k6
  have c7 := hsp.k7
  have c8 := hsp.k8
  have c9 := hsp.k9
  have c10 := hsp.k10
  have hrun : (execOp a.eval (Oop 3 (by decide))).run Try.prog w = .ok (.value (.agg #[.int .u64 s0.trace, .int .u64 s0.id, .int .u64 s0.parent, .string s0.service, .string s0.op, .int .i64 s0.start, .int .i64 s0.dur, .int .i64 s0.status, .slice s0.A1 s0.n1 s0.c1, .slice s0.A2 s0.n2 s0.c2, .slice s0.A3 s0.n3 s0.c3])) w := by
    unfold execOp
    rw [show (Oop 3 (by decide)).op = .load 31 (.tmp 108) from by kernel_rfl]
    simp [go_sem, t108, c0, c1, c2, c3, c4, c5, c6, c7, c8, c9, c10, Nat.zero_add]
  exact wp_val hrun (hK _ _ (hR1 _) (rfl))

theorem O_14 (hin : InO w0 a0 gq gp g x0 o s0 s1) : Ob Try.prog RO Q BO a0 S1 w0 (VO gq gp g x0 o s0 s1) 14 := by
  intro o x a w ho hB hd hu hs hf hw K hK
  obtain rfl : Oop 14 (by decide) = o := Option.some.inj ((atO 14 (by decide)).symm.trans ho)
  have t119 := hs 13 119 _ (atO 13 (by decide)) (by kernel_rfl) rfl
  have d119 : x 13 = .pointer (some ⟨g, 0, none⟩) := hd 13 _ (atO 13 (by decide)) rfl (wants_none (by kernel_rfl))
  rw [d119] at t119
  have hsp := hin.sp0.below hB
  have c0 := hsp.k0
  have c1 := hsp.k1
  have c2 := hsp.k2
  have c3 := hsp.k3
  have c4 := hsp.k4
  have c5 := hsp.k5
  have c6 := hsp.k6
  have c7 := hsp.k7
  have c8 := hsp.k8
  have c9 := hsp.k9
  have c10 := hsp.k10
  have hrun : (execOp a.eval (Oop 14 (by decide))).run Try.prog w = .ok (.value (.agg #[.int .u64 s0.trace, .int .u64 s0.id, .int .u64 s0.parent, .string s0.service, .string s0.op, .int .i64 s0.start, .int .i64 s0.dur, .int .i64 s0.status, .slice s0.A1 s0.n1 s0.c1, .slice s0.A2 s0.n2 s0.c2, .slice s0.A3 s0.n3 s0.c3])) w := by
    unfold execOp
    rw [show (Oop 14 (by decide)).op = .load 31 (.tmp 119) from by kernel_rfl]
    simp [go_sem, t119, c0, c1, c2, c3, c4, c5, c6, c7, c8, c9, c10, Nat.zero_add]
  exact wp_val hrun (hK _ _ (hR1 _) (rfl))

theorem O_8 (hin : InO w0 a0 gq gp g x0 o s0 s1) : Ob Try.prog RO Q BO a0 S1 w0 (VO gq gp g x0 o s0 s1) 8 := by
  intro o x a w ho hB hd hu hs hf hw K hK
  obtain rfl : Oop 8 (by decide) = o := Option.some.inj ((atO 8 (by decide)).symm.trans ho)
  have t113 := hs 7 113 _ (atO 7 (by decide)) (by kernel_rfl) rfl
  have d113 : x 7 = .pointer (some ⟨g, 11, none⟩) := hd 7 _ (atO 7 (by decide)) rfl (wants_none (by kernel_rfl))
  rw [d113] at t113
  have hsp := hin.sp1.below hB
  have c0 := hsp.k0
  have c1 := hsp.k1
  have c2 := hsp.k2
  have c3 := hsp.k3
  have c4 := hsp.k4
  have c5 := hsp.k5
  have c6 := hsp.k6
  have c7 := hsp.k7
  have c8 := hsp.k8
  have c9 := hsp.k9
  have c10 := hsp.k10
  have hrun : (execOp a.eval (Oop 8 (by decide))).run Try.prog w = .ok (.value (.agg #[.int .u64 s1.trace, .int .u64 s1.id, .int .u64 s1.parent, .string s1.service, .string s1.op, .int .i64 s1.start, .int .i64 s1.dur, .int .i64 s1.status, .slice s1.A1 s1.n1 s1.c1, .slice s1.A2 s1.n2 s1.c2, .slice s1.A3 s1.n3 s1.c3])) w := by
    unfold execOp
    rw [show (Oop 8 (by decide)).op = .load 31 (.tmp 113) from by kernel_rfl]
    simp [go_sem, t113, c0, c1, c2, c3, c4, c5, c6, c7, c8, c9, c10, Nat.zero_add]
  exact wp_val hrun (hK _ _ (hR1 _) (rfl))

theorem O_19 (hin : InO w0 a0 gq gp g x0 o s0 s1) : Ob Try.prog RO Q BO a0 S1 w0 (VO gq gp g x0 o s0 s1) 19 := by
  intro o x a w ho hB hd hu hs hf hw K hK
  obtain rfl : Oop 19 (by decide) = o := Option.some.inj ((atO 19 (by decide)).symm.trans ho)
  have t124 := hs 18 124 _ (atO 18 (by decide)) (by kernel_rfl) rfl
  have d124 : x 18 = .pointer (some ⟨g, 11, none⟩) := hd 18 _ (atO 18 (by decide)) rfl (wants_none (by kernel_rfl))
  rw [d124] at t124
  have hsp := hin.sp1.below hB
  have c0 := hsp.k0
  have c1 := hsp.k1
  have c2 := hsp.k2
  have c3 := hsp.k3
  have c4 := hsp.k4
  have c5 := hsp.k5
  have c6 := hsp.k6
  have c7 := hsp.k7
  have c8 := hsp.k8
  have c9 := hsp.k9
  have c10 := hsp.k10
  have hrun : (execOp a.eval (Oop 19 (by decide))).run Try.prog w = .ok (.value (.agg #[.int .u64 s1.trace, .int .u64 s1.id, .int .u64 s1.parent, .string s1.service, .string s1.op, .int .i64 s1.start, .int .i64 s1.dur, .int .i64 s1.status, .slice s1.A1 s1.n1 s1.c1, .slice s1.A2 s1.n2 s1.c2, .slice s1.A3 s1.n3 s1.c3])) w := by
    unfold execOp
    rw [show (Oop 19 (by decide)).op = .load 31 (.tmp 124) from by kernel_rfl]
    simp [go_sem, t124, c0, c1, c2, c3, c4, c5, c6, c7, c8, c9, c10, Nat.zero_add]
  exact wp_val hrun (hK _ _ (hR1 _) (rfl))

theorem O_4 (hin : InO w0 a0 gq gp g x0 o s0 s1) : Ob Try.prog RO Q BO a0 S1 w0 (VO gq gp g x0 o s0 s1) 4 := by
  intro o x a w ho hB hd hu hs hf hw K hK
  obtain rfl : Oop 4 (by decide) = o := Option.some.inj ((atO 4 (by decide)).symm.trans ho)
  have t107 := hs 1 107 _ (atO 1 (by decide)) (by kernel_rfl) rfl
  have d107 : x 1 = .int .i64 x0 := hd 1 _ (atO 1 (by decide)) rfl (wants_none (by kernel_rfl))
  rw [d107] at t107
  have t109 := hs 3 109 _ (atO 3 (by decide)) (by kernel_rfl) rfl
  have d109 : x 3 = .agg #[.int .u64 s0.trace, .int .u64 s0.id, .int .u64 s0.parent, .string s0.service, .string s0.op, .int .i64 s0.start, .int .i64 s0.dur, .int .i64 s0.status, .slice s0.A1 s0.n1 s0.c1, .slice s0.A2 s0.n2 s0.c2, .slice s0.A3 s0.n3 s0.c3] := hd 3 _ (atO 3 (by decide)) rfl (wants_none (by kernel_rfl))
  rw [d109] at t109
  refine wp_calls (ats := #[.tmp 107, .tmp 109]) (ts := #[3, 31]) Try.func11 (by kernel_rfl) (by kernel_rfl) #[.int .i64 x0, .agg #[.int .u64 s0.trace, .int .u64 s0.id, .int .u64 s0.parent, .string s0.service, .string s0.op, .int .i64 s0.start, .int .i64 s0.dur, .int .i64 s0.status, .slice s0.A1 s0.n1 s0.c1, .slice s0.A2 s0.n2 s0.c2, .slice s0.A3 s0.n3 s0.c3]] (by kernel_rfl) (by simp [Act.eval, t107, t109]) ?_
  refine ((hin.good0.below hB).at_ hin.ix).mono ?_
  rintro e w' ⟨v, rfl, hv, hB'⟩
  exact ⟨_, rfl, hK _ _ hB' hv⟩

theorem O_9 (hin : InO w0 a0 gq gp g x0 o s0 s1) : Ob Try.prog RO Q BO a0 S1 w0 (VO gq gp g x0 o s0 s1) 9 := by
  intro o x a w ho hB hd hu hs hf hw K hK
  obtain rfl : Oop 9 (by decide) = o := Option.some.inj ((atO 9 (by decide)).symm.trans ho)
  have t112 := hs 6 112 _ (atO 6 (by decide)) (by kernel_rfl) rfl
  have d112 : x 6 = .int .i64 x0 := hd 6 _ (atO 6 (by decide)) rfl (wants_none (by kernel_rfl))
  rw [d112] at t112
  have t114 := hs 8 114 _ (atO 8 (by decide)) (by kernel_rfl) rfl
  have d114 : x 8 = .agg #[.int .u64 s1.trace, .int .u64 s1.id, .int .u64 s1.parent, .string s1.service, .string s1.op, .int .i64 s1.start, .int .i64 s1.dur, .int .i64 s1.status, .slice s1.A1 s1.n1 s1.c1, .slice s1.A2 s1.n2 s1.c2, .slice s1.A3 s1.n3 s1.c3] := hd 8 _ (atO 8 (by decide)) rfl (wants_none (by kernel_rfl))
  rw [d114] at t114
  refine wp_calls (ats := #[.tmp 112, .tmp 114]) (ts := #[3, 31]) Try.func11 (by kernel_rfl) (by kernel_rfl) #[.int .i64 x0, .agg #[.int .u64 s1.trace, .int .u64 s1.id, .int .u64 s1.parent, .string s1.service, .string s1.op, .int .i64 s1.start, .int .i64 s1.dur, .int .i64 s1.status, .slice s1.A1 s1.n1 s1.c1, .slice s1.A2 s1.n2 s1.c2, .slice s1.A3 s1.n3 s1.c3]] (by kernel_rfl) (by simp [Act.eval, t112, t114]) ?_
  refine ((hin.good1.below hB).at_ hin.ix).mono ?_
  rintro e w' ⟨v, rfl, hv, hB'⟩
  exact ⟨_, rfl, hK _ _ hB' hv⟩

theorem O_15 (hin : InO w0 a0 gq gp g x0 o s0 s1) : Ob Try.prog RO Q BO a0 S1 w0 (VO gq gp g x0 o s0 s1) 15 := by
  intro o x a w ho hB hd hu hs hf hw K hK
  obtain rfl : Oop 15 (by decide) = o := Option.some.inj ((atO 15 (by decide)).symm.trans ho)
  have t118 := hs 12 118 _ (atO 12 (by decide)) (by kernel_rfl) rfl
  have d118 : x 12 = .int .i64 o := hd 12 _ (atO 12 (by decide)) rfl (wants_none (by kernel_rfl))
  rw [d118] at t118
  have t120 := hs 14 120 _ (atO 14 (by decide)) (by kernel_rfl) rfl
  have d120 : x 14 = .agg #[.int .u64 s0.trace, .int .u64 s0.id, .int .u64 s0.parent, .string s0.service, .string s0.op, .int .i64 s0.start, .int .i64 s0.dur, .int .i64 s0.status, .slice s0.A1 s0.n1 s0.c1, .slice s0.A2 s0.n2 s0.c2, .slice s0.A3 s0.n3 s0.c3] := hd 14 _ (atO 14 (by decide)) rfl (wants_none (by kernel_rfl))
  rw [d120] at t120
  refine wp_calls (ats := #[.tmp 118, .tmp 120]) (ts := #[3, 31]) Try.func14 (by kernel_rfl) (by kernel_rfl) #[.int .i64 o, .agg #[.int .u64 s0.trace, .int .u64 s0.id, .int .u64 s0.parent, .string s0.service, .string s0.op, .int .i64 s0.start, .int .i64 s0.dur, .int .i64 s0.status, .slice s0.A1 s0.n1 s0.c1, .slice s0.A2 s0.n2 s0.c2, .slice s0.A3 s0.n3 s0.c3]] (by kernel_rfl) (by simp [Act.eval, t118, t120]) ?_
  refine ((hin.good0.below hB).key_ o).mono ?_
  rintro e w' ⟨v, rfl, hv, hB'⟩
  exact ⟨_, rfl, hK _ _ hB' hv⟩

theorem O_20 (hin : InO w0 a0 gq gp g x0 o s0 s1) : Ob Try.prog RO Q BO a0 S1 w0 (VO gq gp g x0 o s0 s1) 20 := by
  intro o x a w ho hB hd hu hs hf hw K hK
  obtain rfl : Oop 20 (by decide) = o := Option.some.inj ((atO 20 (by decide)).symm.trans ho)
  have t123 := hs 17 123 _ (atO 17 (by decide)) (by kernel_rfl) rfl
  have d123 : x 17 = .int .i64 o := hd 17 _ (atO 17 (by decide)) rfl (wants_none (by kernel_rfl))
  rw [d123] at t123
  have t125 := hs 19 125 _ (atO 19 (by decide)) (by kernel_rfl) rfl
  have d125 : x 19 = .agg #[.int .u64 s1.trace, .int .u64 s1.id, .int .u64 s1.parent, .string s1.service, .string s1.op, .int .i64 s1.start, .int .i64 s1.dur, .int .i64 s1.status, .slice s1.A1 s1.n1 s1.c1, .slice s1.A2 s1.n2 s1.c2, .slice s1.A3 s1.n3 s1.c3] := hd 19 _ (atO 19 (by decide)) rfl (wants_none (by kernel_rfl))
  rw [d125] at t125
  refine wp_calls (ats := #[.tmp 123, .tmp 125]) (ts := #[3, 31]) Try.func14 (by kernel_rfl) (by kernel_rfl) #[.int .i64 o, .agg #[.int .u64 s1.trace, .int .u64 s1.id, .int .u64 s1.parent, .string s1.service, .string s1.op, .int .i64 s1.start, .int .i64 s1.dur, .int .i64 s1.status, .slice s1.A1 s1.n1 s1.c1, .slice s1.A2 s1.n2 s1.c2, .slice s1.A3 s1.n3 s1.c3]] (by kernel_rfl) (by simp [Act.eval, t123, t125]) ?_
  refine ((hin.good1.below hB).key_ o).mono ?_
  rintro e w' ⟨v, rfl, hv, hB'⟩
  exact ⟨_, rfl, hK _ _ hB' hv⟩

theorem O_10 (hin : InO w0 a0 gq gp g x0 o s0 s1) : Ob Try.prog RO Q BO a0 S1 w0 (VO gq gp g x0 o s0 s1) 10 := by
  intro o x a w ho hB hd hu hs hf hw K hK
  obtain rfl : Oop 10 (by decide) = o := Option.some.inj ((atO 10 (by decide)).symm.trans ho)
  have t110 := hs 4 110 _ (atO 4 (by decide)) (by kernel_rfl) rfl
  have d110 : ReadV w (x 4) (atB x0 s0) := hd 4 _ (atO 4 (by decide)) rfl (wants_none (by kernel_rfl))
  have t115 := hs 9 115 _ (atO 9 (by decide)) (by kernel_rfl) rfl
  have d115 : ReadV w (x 9) (atB x0 s1) := hd 9 _ (atO 9 (by decide)) rfl (wants_none (by kernel_rfl))
  obtain ⟨A1, k1, e1, _, r1⟩ := d110
  obtain ⟨A2, k2, e2, _, r2⟩ := d115
  rw [e1] at t110
  rw [e2] at t115
  refine wp_calls (ats := #[.tmp 110, .tmp 115]) (ts := #[36, 36]) Try.func13 (by kernel_rfl) (by kernel_rfl) #[.slice A1 (atB x0 s0).length k1, .slice A2 (atB x0 s1).length k2] (by kernel_rfl) (by simp [Act.eval, t110, t115]) ?_
  refine (less_any _ _ _ _ _ _ _ _ _ r1 r2).mono ?_
  rintro e w' ⟨rfl, hd'⟩
  exact ⟨_, rfl, hK _ _ hd'.below rfl⟩

theorem O_21 (hin : InO w0 a0 gq gp g x0 o s0 s1) : Ob Try.prog RO Q BO a0 S1 w0 (VO gq gp g x0 o s0 s1) 21 := by
  intro o x a w ho hB hd hu hs hf hw K hK
  obtain rfl : Oop 21 (by decide) = o := Option.some.inj ((atO 21 (by decide)).symm.trans ho)
  have t121 := hs 15 121 _ (atO 15 (by decide)) (by kernel_rfl) rfl
  have d121 : ReadV w (x 15) (orderB o s0) := hd 15 _ (atO 15 (by decide)) rfl (wants_none (by kernel_rfl))
  have t126 := hs 20 126 _ (atO 20 (by decide)) (by kernel_rfl) rfl
  have d126 : ReadV w (x 20) (orderB o s1) := hd 20 _ (atO 20 (by decide)) rfl (wants_none (by kernel_rfl))
  obtain ⟨A1, k1, e1, _, r1⟩ := d121
  obtain ⟨A2, k2, e2, _, r2⟩ := d126
  rw [e1] at t121
  rw [e2] at t126
  refine wp_calls (ats := #[.tmp 121, .tmp 126]) (ts := #[36, 36]) Try.func13 (by kernel_rfl) (by kernel_rfl) #[.slice A1 (orderB o s0).length k1, .slice A2 (orderB o s1).length k2] (by kernel_rfl) (by simp [Act.eval, t121, t126]) ?_
  refine (less_any _ _ _ _ _ _ _ _ _ r1 r2).mono ?_
  rintro e w' ⟨rfl, hd'⟩
  exact ⟨_, rfl, hK _ _ hd'.below rfl⟩

theorem O_22 (hin : InO w0 a0 gq gp g x0 o s0 s1) : Ob Try.prog RO Q BO a0 S1 w0 (VO gq gp g x0 o s0 s1) 22 := by
  intro o x a w ho hB hd hu hs hf hw K hK
  obtain rfl : Oop 22 (by decide) = o := Option.some.inj ((atO 22 (by decide)).symm.trans ho)
  have t116 := hs 10 116 _ (atO 10 (by decide)) (by kernel_rfl) rfl
  have d116 : x 10 = .bool (lessB (atB x0 s0) (atB x0 s1)) := hd 10 _ (atO 10 (by decide)) rfl (wants_none (by kernel_rfl))
  rw [d116] at t116
  have t127 := hs 21 127 _ (atO 21 (by decide)) (by kernel_rfl) rfl
  have d127 : x 21 = .bool (lessB (orderB o s0) (orderB o s1)) := hd 21 _ (atO 21 (by decide)) rfl (wants_none (by kernel_rfl))
  rw [d127] at t127
  have hrun : (execOp a.eval (Oop 22 (by decide))).run Try.prog w = .ok (.value (.bool true)) w := by
    unfold execOp
    rw [show (Oop 22 (by decide)).op = .binOp .eql 4 (.tmp 116) (.tmp 127) 4 from by kernel_rfl]
    simp [go_sem, t116, t127, hin.law]
  exact wp_val hrun (hK _ _ (hR1 _) (rfl))

theorem O_23 (hin : InO w0 a0 gq gp g x0 o s0 s1) : Ob Try.prog RO Q BO a0 S1 w0 (VO gq gp g x0 o s0 s1) 23 := by
  intro o x a w ho hB hd hu hs hf hw K hK
  obtain rfl : Oop 23 (by decide) = o := Option.some.inj ((atO 23 (by decide)).symm.trans ho)
  have t128 := hs 22 128 _ (atO 22 (by decide)) (by kernel_rfl) rfl
  have d128 : x 22 = .bool true := hd 22 _ (atO 22 (by decide)) rfl (wants_none (by kernel_rfl))
  rw [d128] at t128
  have hrun : (execOp a.eval (Oop 23 (by decide))).run Try.prog w = .ok (.value (.bool true)) w := by
    unfold execOp
    rw [show (Oop 23 (by decide)).op = .assign (.tmp 128) from by kernel_rfl]
    simp [go_sem, t128]
  exact wp_val hrun (hK _ _ (hR1 _) (rfl))
theorem O_all (hin : InO w0 a0 gq gp g x0 o s0 s1) : ∀ j, j < 24 → Ob Try.prog RO Q BO a0 S1 w0 (VO gq gp g x0 o s0 s1) j
  | 0, _ => O_0 hin
  | 1, _ => O_1 hin
  | 2, _ => O_2 hin
  | 3, _ => O_3 hin
  | 4, _ => O_4 hin
  | 5, _ => O_5 hin
  | 6, _ => O_6 hin
  | 7, _ => O_7 hin
  | 8, _ => O_8 hin
  | 9, _ => O_9 hin
  | 10, _ => O_10 hin
  | 11, _ => O_11 hin
  | 12, _ => O_12 hin
  | 13, _ => O_13 hin
  | 14, _ => O_14 hin
  | 15, _ => O_15 hin
  | 16, _ => O_16 hin
  | 17, _ => O_17 hin
  | 18, _ => O_18 hin
  | 19, _ => O_19 hin
  | 20, _ => O_20 hin
  | 21, _ => O_21 hin
  | 22, _ => O_22 hin
  | 23, _ => O_23 hin
  | k + 24, h => by omega
theorem stableO : ∀ j v w w', S1 w w' → VO gq gp g x0 o s0 s1 j v w → VO gq gp g x0 o s0 s1 j v w' := by
  intro j v w w' hb h
  match j, h with
  | 0, h => exact h
  | 1, h => exact h
  | 2, h => exact h
  | 3, h => exact h
  | 4, h => exact ReadV.below h hb
  | 5, h => exact h
  | 6, h => exact h
  | 7, h => exact h
  | 8, h => exact h
  | 9, h => exact ReadV.below h hb
  | 10, h => exact h
  | 11, h => exact h
  | 12, h => exact h
  | 13, h => exact h
  | 14, h => exact h
  | 15, h => exact ReadV.below h hb
  | 16, h => exact h
  | 17, h => exact h
  | 18, h => exact h
  | 19, h => exact h
  | 20, h => exact ReadV.below h hb
  | 21, h => exact h
  | 22, h => exact h
  | 23, h => exact h
  | k + 24, h => exact trivial
theorem region_O {id : Nat} {ops : Array Oper} (hops : ops = RO) (hsz : 129 ≤ a0.tmps.size) (hin : InO w0 a0 gq gp g x0 o s0 s1)
    (hQ : ∀ (x : Nat → Value) w', Below w0.heap.size w0 w' → x 23 = .bool true → Q .normal (fullOf x a0 ([(0, 106), (1, 107), (2, 108), (3, 109), (4, 110), (5, 111), (6, 112), (7, 113), (8, 114), (9, 115), (10, 116), (11, 117), (12, 118), (13, 119), (14, 120), (15, 121), (16, 122), (17, 123), (18, 124), (19, 125), (20, 126), (21, 127), (22, 128), (23, 6)] : List (Nat × Tmp))) w') : (Code.region id ops true).wp Try.prog Q a0 w0 := by
  subst hops
  refine region_typed S1 BO (VO gq gp g x0 o s0 s1) (by kernel_rfl) sizeO waitsO baseO guardsO oneO twoO ?_ hR1 hT1 (Below.refl _ _).drew stableO (O_all hin) ?_
  · rw [dstsO]
    intro e he
    have h2 := List.all_eq_true.1 (show (([(0, 106), (1, 107), (2, 108), (3, 109), (4, 110), (5, 111), (6, 112), (7, 113), (8, 114), (9, 115), (10, 116), (11, 117), (12, 118), (13, 119), (14, 120), (15, 121), (16, 122), (17, 123), (18, 124), (19, 125), (20, 126), (21, 127), (22, 128), (23, 6)] : List (Nat × Tmp)).all fun e : Nat × Tmp => decide (e.2 < 129)) = true from by decide) e he
    exact Nat.lt_of_lt_of_le (of_decide_eq_true h2) hsz
  · intro x w' hS hV
    rw [dstsO]
    exact hQ x w' hS (hV 23 _ (atO 23 (by decide)) (wants_none (by kernel_rfl)))
end
end Go.Proofs.Ytmckgcooehdbaaa
