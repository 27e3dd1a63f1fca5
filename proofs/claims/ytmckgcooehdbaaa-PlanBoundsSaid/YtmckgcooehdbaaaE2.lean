/- append of a row of terms onto a row of terms of the call's own, as one step of a region that draws. No condition beyond those that each theorem names. -/
import Derived.Test.YtmckgcooehdbaaaE1
set_option linter.unusedVariables false
set_option linter.unusedSimpArgs false
namespace Go.Proofs.Ytmckgcooehdbaaa
open Go.RowKit Go.Proofs.YtmckgcooehdbaaaW.PrintWords

def OwnT (w : World) (base : Nat) (v : Value) (us : List Term) : Prop := w.ownsRow base 47 6 v us.length (us.flatMap Term.cells)
theorem OwnT.alloc {w : World} {base : Nat} {v : Value} {us : List Term} (h : OwnT w base v us) (o : Obj) : OwnT (w.alloc o) base v us := World.ownsRow.alloc h o
theorem OwnT.drew {w : World} {base : Nat} {v : Value} {us : List Term} (h : OwnT w base v us) : OwnT w.drew base v us := h
theorem OwnT.below {w w1 : World} {base : Nat} {v : Value} {us : List Term} (h : OwnT w base v us) (hb : Below w.heap.size w w1) : OwnT w1 base v us :=
  World.ownsRow.kept (row := none) h ⟨hb.os, hb.tape, hb.output, hb.size, fun k hk _ => hb.block k hk⟩ (by cases hv : v.ownBlock <;> simp)
theorem OwnT.terms {w : World} {base : Nat} {v : Value} {us : List Term} (h : OwnT w base v us) (hm : us.length ≤ 9223372036854775807) : ∃ A c, v = .slice A us.length c ∧ TermsAt w A us.length us := own_terms h hm
theorem own_empty (w : World) (base : Nat) (hb : base ≤ w.heap.size) : OwnT (w.alloc (.cells #[] 47)) base (.slice (some ⟨w.heap.size, 0, none⟩) 0 0) [] :=
  World.ownsRow_made w #[] 0 hb (by decide) rfl
theorem own_one (w : World) (base : Nat) (t : Term) (hb : base ≤ w.heap.size) : OwnT (w.alloc (.cells #[.string t.field, .int .i64 t.rel, .int .i64 t.kind, .string t.text, .int .i64 t.num, .bool t.tru] 47)) base (.slice (some ⟨w.heap.size, 0, none⟩) 1 1) [t] := by
  have h := World.ownsRow_lit (e := 47) (size := 6) w #[.string t.field, .int .i64 t.rel, .int .i64 t.kind, .string t.text, .int .i64 t.num, .bool t.tru] 1 hb (by decide) rfl
  simpa [OwnT, Term.cells] using h

/-- A block that is what it is. -/
def Blk (w : World) (B : Nat) (o : Obj) : Prop := w.heap[B]? = some o
theorem Blk.new (w : World) (o : Obj) : Blk (w.alloc o) w.heap.size o := heap_alloc_new _ _
theorem Blk.new' {w : World} {B : Nat} {o : Obj} (h : B = w.heap.size) : Blk (w.alloc o) B o := h ▸ heap_alloc_new _ _
theorem Blk.alloc {w : World} {B : Nat} {o : Obj} (h : Blk w B o) (o' : Obj) : Blk (w.alloc o') B o := (Below.heap_alloc w o' B (Array.getElem?_eq_some_iff.1 h).1).trans h
theorem Blk.drew {w : World} {B : Nat} {o : Obj} (h : Blk w B o) : Blk w.drew B o := h
/-- A block beside a row of the call's own. -/
def Apart (w : World) (v : Value) (B : Nat) (o : Obj) : Prop := Blk w B o ∧ v.ownBlock ≠ some B
theorem Apart.alloc {w : World} {v : Value} {B : Nat} {o : Obj} (h : Apart w v B o) (o' : Obj) : Apart (w.alloc o') v B o := ⟨h.1.alloc o', h.2⟩
theorem Apart.new {w : World} {base : Nat} {v : Value} {us : List Term} (h : OwnT w base v us) (o : Obj) : Apart (w.alloc o) v w.heap.size o :=
  ⟨Blk.new w o, fun e => by have := (World.ownsRow.lt h _ e).2; omega⟩
theorem Apart.new2 {w : World} {base B : Nat} {v : Value} {us : List Term} (h : OwnT w base v us) (o : Obj) (hB : B = w.heap.size) : Apart (w.alloc o) v B o := hB ▸ Apart.new h o
theorem Apart.append {w w' : World} {v v' : Value} {B : Nat} {o : Obj} (h : Apart w v B o) (hg : w.grownBy w' v.ownBlock) (hv : v'.ownBlock = v.ownBlock ∨ v'.ownBlock = some w.heap.size) : Apart w' v' B o := by
  have hl : B < w.heap.size := (Array.getElem?_eq_some_iff.1 h.1).1
  refine ⟨(hg.block B hl (fun e => h.2 e.symm)).trans h.1, ?_⟩
  rcases hv with e | e
  · rw [e]; exact h.2
  · rw [e]; intro e'; simp at e'; omega
theorem own_empty' {w : World} {base B : Nat} (hB : B = w.heap.size) (hb : base ≤ w.heap.size) : OwnT (w.alloc (.cells #[] 47)) base (.slice (some ⟨B, 0, none⟩) 0 0) [] := hB ▸ own_empty w base hb

/-- A row of terms, cell by cell. -/
theorem TermsAt.news {w : World} {ad : Addr} {m : Nat} {ts : List Term} (h : TermsAt w (some ad) m ts) : ∀ j u, (ts.flatMap Term.cells)[j]? = some u → w.cell? (ad.add j) = some u := by
  intro j u hu
  have hj : j < (ts.flatMap Term.cells).length := (List.getElem?_eq_some_iff.1 hu).1
  rw [cells_length] at hj
  have hi : j / 6 < ts.length := by omega
  have hk : j % 6 < 6 := by omega
  have ej : j / 6 * 6 + j % 6 = j := by omega
  have hat := cells_at ts (j / 6) (j % 6) hi hk
  rw [ej, hu] at hat
  obtain ⟨ad', ha, ht⟩ := h.at_ _ hi
  cases ha
  have hadd : ∀ k, 0 < k → ad.add (j / 6 * 6 + k) = ⟨(ad.add (j / 6 * 6)).block, (ad.add (j / 6 * 6)).off + k, none⟩ := fun k hk => by
    unfold Addr.add
    rw [if_neg (by omega)]
    split <;> simp_all <;> omega
  have hcase : j % 6 = 0 ∨ j % 6 = 1 ∨ j % 6 = 2 ∨ j % 6 = 3 ∨ j % 6 = 4 ∨ j % 6 = 5 := by omega
  rw [← ej]
  rcases hcase with e | e | e | e | e | e <;> rw [e] at hat ⊢
  · rw [Nat.add_zero]; exact ht.c0.trans hat.symm
  · rw [hadd 1 (by omega)]; exact ht.c1.trans hat.symm
  · rw [hadd 2 (by omega)]; exact ht.c2.trans hat.symm
  · rw [hadd 3 (by omega)]; exact ht.c3.trans hat.symm
  · rw [hadd 4 (by omega)]; exact ht.c4.trans hat.symm
  · rw [hadd 5 (by omega)]; exact ht.c5.trans hat.symm

theorem run_append_terms (w : World) (base : Nat) (t ty : TypeId) (ht : Try.prog.underlying t = some (.slice 47)) (v : Value) (us : List Term) (hown : OwnT w base v us)
    (A : Option Addr) (m c : Nat) (ts : List Term) (hts : TermsAt w A m ts) (hl : us.length + m ≤ 1000) (hb : base ≤ w.heap.size) :
    ∃ A' n' c' w', (Builtin.append_ #[t, t] ty #[v, .slice A m c]).run Try.prog w = .ok (.slice A' n' c') w' ∧ OwnT w' base (.slice A' n' c') (us ++ ts) ∧ Below base w w' ∧ ∀ B o, Apart w v B o → Apart w' (.slice A' n' c') B o := by
  obtain ⟨i0, hi, hz0, hz1, hz2⟩ := info_parts info_term
  have hm := hts.len
  cases A with
  | none =>
    have h0 : ts = [] := by
      cases ts with
      | nil => rfl
      | cons u r =>
        obtain ⟨ad, ha, _⟩ := hts.at_ 0 (by simp)
        cases ha
    subst h0
    have hm0 : m = 0 := by simpa using hm.symm
    subst hm0
    have hr : (Builtin.append_ #[t, t] ty #[v, .slice none 0 c]).run Try.prog w = .ok v w := by
      rcases hown.2 with ⟨rfl, _⟩ | ⟨g, cap, cur, rfl, _, _, hnc, _⟩
      · simp [Builtin.append_, run_underlying ht, sizeOf, typeInfo, hi, Builtin.lenOf, Builtin.firstCells]
      · simp [Builtin.append_, run_underlying ht, sizeOf, typeInfo, hi, Builtin.lenOf, Builtin.firstCells, hnc, storeCells]
    obtain ⟨A', c', rfl, _⟩ := hown.terms (by omega)
    exact ⟨A', _, c', w, hr, by simpa using hown, Below.refl _ _, fun _ _ h => h⟩
  | some ad =>
    obtain ⟨v', w', hr, h2, h3, _, h5⟩ := run_append_own_at (P := Try.prog) w base t ty 47 i0 _ 6 64 ht hi hz0 hz1 hz2 rfl (by decide) v us.length _ hown ad m c (ts.flatMap Term.cells) (by rw [cells_length, hm]) hts.news
      (by intro u hu; simp only [List.mem_flatMap] at hu; obtain ⟨x, _, hx⟩ := hu; simp only [Term.cells, List.mem_cons, List.not_mem_nil, or_false] at hx; rcases hx with rfl | rfl | rfl | rfl | rfl | rfl <;> rfl)
      (by unfold maxLen; omega) (by omega) hb
    have h2' : OwnT w' base v' (us ++ ts) := by
      unfold OwnT
      rw [List.length_append, hm, List.flatMap_append]
      exact h2
    obtain ⟨A', c', rfl, _⟩ := h2'.terms (by rw [List.length_append]; omega)
    exact ⟨A', _, c', w', hr, h2', (Below.refl base w).grown h3 hb fun k hk => (hown.lt k hk).1, fun B o hA => hA.append h3 h5⟩

theorem step_append_terms {ops : Array Oper} {o : Oper} {a : Act} {w : World} {K : Act → World → Prop} {Q : Exit → Act → World → Prop} {E : Prop} (hgd : o.guard = none) (s x : Operand) (t : TypeId)
    (ho : o.op = .call { callee := .builtin .append, args := #[s, x], argTypes := #[t, t] }) (ht : Try.prog.underlying t = some (.slice 47))
    (base : Nat) (v : Value) (us : List Term) (hs : a.eval s = v) (hown : OwnT w base v us)
    (A : Option Addr) (m c : Nat) (ts : List Term) (hx : a.eval x = .slice A m c) (hts : TermsAt w A m ts) (hl : us.length + m ≤ 1000) (hb : base ≤ w.heap.size)
    (h : ∀ A' n' c' w', OwnT w' base (.slice A' n' c') (us ++ ts) → Below base w w' → (∀ B o, Apart w v B o → Apart w' (.slice A' n' c') B o) → K (a.put o.dst (.slice A' n' c')) w') :
    if Region.wanted o (yielded ops a.tmps) = true then Oper.wp Try.prog o a w K Q else E := by
  have hw : Region.wanted o (yielded ops a.tmps) = true := by simp [Region.wanted, hgd]
  rw [if_pos hw]
  obtain ⟨A', n', c', w', hr, h2, h3, h4⟩ := run_append_terms w base t o.type ht v us hown A m c ts hts hl hb
  unfold Oper.wp execOp
  simp only [ho, resolve, invoke, builtin, Sem.run_bind, Sem.run_pure, Result.andThen_ok, List.map_toArray, List.map_cons, List.map_nil, hs, hx, hr]
  exact h A' n' c' w' h2 h3 h4

/-- A query in a block, its row of terms readable. -/
def QueryAt (w : World) (g : Nat) (us : List Term) : Prop := ∃ A c, w.heap[g]? = some (.cells #[.slice A us.length c, .int .i64 0] 24 (0, 0)) ∧ TermsAt w A us.length us
theorem OneAt.query {w : World} {base g : Nat} {us : List Term} (h : OneAt w base g us) (hm : us.length ≤ 9223372036854775807) : QueryAt w g us := by
  obtain ⟨v, h1, h2, _⟩ := h.row
  obtain ⟨A, c, rfl, ht⟩ := own_terms h2 hm
  exact ⟨A, c, h1, ht⟩

theorem query_done {w : World} {base n c : Nat} {A : Option Addr} {us : List Term} (h : OwnT w base (.slice A n c) us) (hm : us.length ≤ 9223372036854775807) : QueryAt (w.alloc (.cells #[.slice A n c, .int .i64 0] 24)) w.heap.size us := by
  obtain ⟨A', c', e, ht⟩ := h.terms hm
  cases e
  exact ⟨A, c, heap_alloc_new _ _, ht.below ((Below.refl _ _).alloc (Nat.le_refl _) _)⟩
/-- One term's own cells in a block. -/
def termObj (t : Term) : Obj := .cells #[.string t.field, .int .i64 t.rel, .int .i64 t.kind, .string t.text, .int .i64 t.num, .bool t.tru] 47
theorem Blk.terms {w : World} {B : Nat} {t : Term} (h : Blk w B (.cells #[.string t.field, .int .i64 t.rel, .int .i64 t.kind, .string t.text, .int .i64 t.num, .bool t.tru] 47)) : TermsAt w (some ⟨B, 0, none⟩) 1 [t] := by
  refine ⟨rfl, by decide, fun i hi => ?_⟩
  have h0 : i = 0 := by simpa using hi
  subst h0
  unfold Blk at h
  exact ⟨_, rfl, by simp [World.cell?, Addr.add, h], by simp [World.cell?, Addr.add, h], by simp [World.cell?, Addr.add, h], by simp [World.cell?, Addr.add, h], by simp [World.cell?, Addr.add, h], by simp [World.cell?, Addr.add, h]⟩
/-- A query's block that is stored into. -/
theorem Apart.query {w : World} {base B n c : Nat} {A : Option Addr} {us : List Term} (hA : Apart w (.slice A n c) B (.cells #[.slice none 0 0, .int .i64 0] 24)) (h : OwnT w base (.slice A n c) us) (hm : us.length ≤ 9223372036854775807) :
    QueryAt ((w.setCell ⟨B, 0, none⟩ (.slice A n c)).setCell ⟨B, 1, none⟩ (.int .i64 0)) B us := by
  obtain ⟨hl, e⟩ := Array.getElem?_eq_some_iff.1 hA.1
  have h1 : OwnT ((w.setCell ⟨B, 0, none⟩ (.slice A n c)).setCell ⟨B, 1, none⟩ (.int .i64 0)) base (.slice A n c) us :=
    World.ownsRow.kept (row := some B) h ⟨rfl, rfl, rfl, by simp, fun k hk hne => (Below.heap_setCell _ _ _ _ (fun e => hne (by simp [e]))).trans (Below.heap_setCell _ _ _ _ (fun e => hne (by simp [e])))⟩ (.inr hA.2)
  obtain ⟨A', c', e', ht⟩ := h1.terms hm
  cases e'
  refine ⟨A, c, ?_, ht⟩
  simp [World.setCell, hl, Array.getElem_modify, e]
theorem Blk.cells2 {w : World} {B : Nat} {x y : Value} {T : TypeId} (h : Blk w B (.cells #[x, y] T)) : w.cell? ⟨B, 0, none⟩ = some x ∧ w.cell? ⟨B, 1, none⟩ = some y ∧ w.frozen? ⟨B, 0, none⟩ = false ∧ w.frozen? ⟨B, 1, none⟩ = false := by
  unfold Blk at h
  simp [World.cell?, World.frozen?, h]
theorem below_undrew {B : Nat} {a w : World} (h : Below B a w.drew) : Below B a w := ⟨h.os, h.tape, h.output, h.size, h.block⟩
end Go.Proofs.Ytmckgcooehdbaaa
