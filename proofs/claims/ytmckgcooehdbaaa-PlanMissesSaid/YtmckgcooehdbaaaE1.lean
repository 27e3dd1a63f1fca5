/- What the walk of PlanBounds lays: the boxes, a row of terms that grows, and the plain law on bounds. -/
import Derived.Test.YtmckgcooehdbaaaD2
import Derived.Deep.RegionLaw
set_option linter.unusedVariables false
set_option linter.unusedSimpArgs false
namespace Go.Proofs.Ytmckgcooehdbaaa
open Go.RowKit Go.Proofs.YtmckgcooehdbaaaW.PrintWords

def Term.cells (t : Term) : List Value := [.string t.field, .int .i64 t.rel, .int .i64 t.kind, .string t.text, .int .i64 t.num, .bool t.tru]
theorem info_term : (Try.prog.info? 47).map (fun i => (i.zero, i.size, i.bytes)) = some (some (.agg #[.string ⟨#[]⟩, .int .i64 0, .int .i64 0, .string ⟨#[]⟩, .int .i64 0, .bool false]), 6, 64) := by kernel_rfl

/-- A term in a block. -/
def TBox (w : World) (g : Nat) (t : Term) : Prop := w.heap[g]? = some (.cells #[.string t.field, .int .i64 t.rel, .int .i64 t.kind, .string t.text, .int .i64 t.num, .bool t.tru] 47 (0, 0))
theorem TBox.below {w w1 : World} {g : Nat} {t : Term} (h : TBox w g t) (hb : Below w.heap.size w w1) : TBox w1 g t := (hb.block g (Array.getElem?_eq_some_iff.1 h).1).trans h
theorem TBox.cells {w : World} {g : Nat} {t : Term} (h : TBox w g t) : w.cell? ⟨g, 0, none⟩ = some (.string t.field) ∧ w.cell? ⟨g, 1, none⟩ = some (.int .i64 t.rel) ∧ w.cell? ⟨g, 2, none⟩ = some (.int .i64 t.kind) ∧ w.cell? ⟨g, 3, none⟩ = some (.string t.text) ∧ w.cell? ⟨g, 4, none⟩ = some (.int .i64 t.num) ∧ w.cell? ⟨g, 5, none⟩ = some (.bool t.tru) := by
  unfold TBox at h
  simp [World.cell?, h]
/-- The law's three boxes. -/
structure LBoxes (w : World) (g : Nat) (A : Option Addr) (n c : Nat) (o : Int) (t : Term) (s : Span) : Prop where
  q : QBox w g A n c o
  t : TBox w (g + 1) t
  s : SBox w (g + 1 + 1) s
theorem LBoxes.below {w w1 : World} {g : Nat} {A : Option Addr} {n c : Nat} {o : Int} {t : Term} {s : Span} (h : LBoxes w g A n c o t s) (hb : Below w.heap.size w w1) : LBoxes w1 g A n c o t s := ⟨h.q.below hb, h.t.below hb, h.s.below hb⟩
theorem LBoxes.new (w : World) (A : Option Addr) (n c : Nat) (o : Int) (t : Term) (s : Span) :
    LBoxes (((w.alloc (.cells #[.slice A n c, .int .i64 o] 24)).alloc (.cells #[.string t.field, .int .i64 t.rel, .int .i64 t.kind, .string t.text, .int .i64 t.num, .bool t.tru] 47)).alloc (.cells #[.int .u64 s.trace, .int .u64 s.id, .int .u64 s.parent, .string s.service, .string s.op, .int .i64 s.start, .int .i64 s.dur, .int .i64 s.status, .slice s.A1 s.n1 s.c1, .slice s.A2 s.n2 s.c2, .slice s.A3 s.n3 s.c3] 31)) w.heap.size A n c o t s := by
  refine ⟨?_, ?_, ?_⟩
  · unfold QBox
    rw [Below.heap_alloc _ _ _ (by simp; omega), Below.heap_alloc _ _ _ (by simp), heap_alloc_new]
  · unfold TBox
    rw [Below.heap_alloc _ _ _ (by simp)]
    have h := heap_alloc_new (w.alloc (.cells #[.slice A n c, .int .i64 o] 24)) (.cells #[.string t.field, .int .i64 t.rel, .int .i64 t.kind, .string t.text, .int .i64 t.num, .bool t.tru] 47)
    simpa using h
  · have h := heap_alloc_new ((w.alloc (.cells #[.slice A n c, .int .i64 o] 24)).alloc (.cells #[.string t.field, .int .i64 t.rel, .int .i64 t.kind, .string t.text, .int .i64 t.num, .bool t.tru] 47)) (.cells #[.int .u64 s.trace, .int .u64 s.id, .int .u64 s.parent, .string s.service, .string s.op, .int .i64 s.start, .int .i64 s.dur, .int .i64 s.status, .slice s.A1 s.n1 s.c1, .slice s.A2 s.n2 s.c2, .slice s.A3 s.n3 s.c3] 31)
    simpa [SBox] using h

/-- What the law's guards let in. -/
def Let_ (ts : List Term) (o : Int) (t : Term) (s : Span) : Prop := MayP ts o ∧ OneP t ∧ ts.length ≤ 7 ∧ 0 ≤ s.dur ∧ 0 ≤ s.start

def startS : ByteArray := ⟨#[115, 116, 97, 114, 116]⟩
def durS : ByteArray := ⟨#[100, 117, 114]⟩
/-- The two fields' names in a block. -/
def FBox (w : World) (g : Nat) : Prop := w.heap[g]? = some (.cells #[.string ⟨#[115, 116, 97, 114, 116]⟩, .string ⟨#[100, 117, 114]⟩] 9 (0, 0))
theorem FBox.below {w w1 : World} {g : Nat} (h : FBox w g) (hb : Below w.heap.size w w1) : FBox w1 g := (hb.block g (Array.getElem?_eq_some_iff.1 h).1).trans h

/-- The number that the law looks at. -/
def NN (f : List UInt8) (s : Span) (n : Int) : Prop := (f = startL → n = s.start) ∧ (f = durL → n = s.dur)
/-- The terms of a field. -/
def ofField (f : List UInt8) (ts : List Term) : List Term := ts.filter fun t => t.field.toList == f
/-- A row of terms of the call's own, in a query's block. -/
structure OneAt (w : World) (base g : Nat) (us : List Term) : Prop where
  row : ∃ v, w.heap[g]? = some (.cells #[v, .int .i64 0] 24 (0, 0)) ∧ w.ownsRow base 47 6 v us.length (us.flatMap Term.cells) ∧ v.ownBlock ≠ some g


theorem OneAt.append {w w3 : World} {base g g3 cap : Nat} {us : List Term} {u : Term} {v : Value} {o : Obj}
    (hblk : w.heap[g]? = some (.cells #[v, .int .i64 0] 24 (0, 0))) (hown : w.ownsRow base 47 6 v us.length (us.flatMap Term.cells)) (hne : v.ownBlock ≠ some g) (hg : base ≤ g)
    (hgr : (w.alloc o).drew.grownBy w3 v.ownBlock)
    (hown3 : w3.ownsRow base 47 6 (.slice (some ⟨g3, 0, none⟩) (us.length + 1) cap) (us.length + 1) (us.flatMap Term.cells ++ Term.cells u))
    (hor : v.ownBlock = some g3 ∨ g3 = (w.alloc o).drew.heap.size) :
    w3.cell? ⟨g, 0, none⟩ = some v ∧ w3.frozen? ⟨g, 0, none⟩ = false ∧ OneAt (w3.setCell ⟨g, 0, none⟩ (.slice (some ⟨g3, 0, none⟩) (us.length + 1) cap)) base g (us ++ [u]) ∧ ∀ w0, Below base w0 w → Below base w0 (w3.setCell ⟨g, 0, none⟩ (.slice (some ⟨g3, 0, none⟩) (us.length + 1) cap)) := by
  have hgl : g < w.heap.size := (Array.getElem?_eq_some_iff.1 hblk).1
  have hb1 : (w.alloc o).drew.heap[g]? = some (.cells #[v, .int .i64 0] 24 (0, 0)) := (Below.heap_alloc w o g hgl).trans hblk
  have hgl1 : g < (w.alloc o).drew.heap.size := (Array.getElem?_eq_some_iff.1 hb1).1
  have hb3 : w3.heap[g]? = some (.cells #[v, .int .i64 0] 24 (0, 0)) := (hgr.block g hgl1 (fun e => hne e.symm)).trans hb1
  have hne3 : g3 ≠ g := by
    rcases hor with h | h
    · intro e; exact hne (by rw [h, e])
    · intro e; rw [h] at e; omega
  have hgb : ∀ k, v.ownBlock = some k → base ≤ k := fun k hk => (hown.lt k hk).1
  refine ⟨by simp [World.cell?, hb3], by simp [World.frozen?, hb3], ⟨⟨.slice (some ⟨g3, 0, none⟩) (us.length + 1) cap, ?_, ?_, ?_⟩⟩, ?_⟩
  · obtain ⟨hl3, e3⟩ := Array.getElem?_eq_some_iff.1 hb3
    simp [World.setCell, hl3, Array.getElem_modify, e3]
  · have hlen : (us ++ [u]).length = us.length + 1 := by simp
    have hcs : (us ++ [u]).flatMap Term.cells = us.flatMap Term.cells ++ Term.cells u := by simp
    rw [hlen, hcs]
    refine hown3.kept (row := some g) ⟨rfl, rfl, rfl, by simp, fun k hk hne => Below.heap_setCell _ _ _ _ (fun e => hne (by simp [e]))⟩ (.inr ?_)
    simpa [Value.ownBlock] using hne3
  · simpa [Value.ownBlock] using hne3
  · intro w0 hb
    have h1 : Below base w0 (w.alloc o).drew := (hb.alloc (by omega) o).drew
    exact (h1.grown hgr (by omega) hgb).setCell hg _

theorem cells_length (us : List Term) : (us.flatMap Term.cells).length = us.length * 6 := by
  induction us with
  | nil => rfl
  | cons u us ih => simp [List.flatMap_cons, Term.cells, ih]; omega
theorem cells_at (us : List Term) (i k : Nat) (hi : i < us.length) (hk : k < 6) : (us.flatMap Term.cells)[i * 6 + k]? = (Term.cells us[i])[k]? := by
  induction us generalizing i with
  | nil => simp at hi
  | cons u us ih =>
    cases i with
    | zero => simp only [List.flatMap_cons]; rw [List.getElem?_append_left (by simp [Term.cells]; omega)]; simp
    | succ i =>
      simp only [List.flatMap_cons]
      rw [List.getElem?_append_right (by simp [Term.cells]; omega)]
      have e : (i + 1) * 6 + k - (Term.cells u).length = i * 6 + k := by simp [Term.cells]; omega
      rw [e]
      simpa using ih i (by simpa using hi)
/-- A row of terms of the call's own is a row of terms. -/
theorem own_terms {w : World} {base : Nat} {us : List Term} {v : Value} (h : w.ownsRow base 47 6 v us.length (us.flatMap Term.cells)) (hmax : us.length ≤ 9223372036854775807) : ∃ A c, v = .slice A us.length c ∧ TermsAt w A us.length us := by
  have h' := h
  rcases h.2 with ⟨rfl, h0⟩ | ⟨g, cap, cur, rfl, hb, hg, _⟩
  · exact ⟨none, 0, by rw [h0], rfl, hmax, fun i hi => by omega⟩
  · refine ⟨some ⟨g, 0, none⟩, cap, rfl, rfl, hmax, fun i hi => ⟨_, rfl, ?_⟩⟩
    have hc := h'.cells (g := g) rfl
    have hk : ∀ k, k < 6 → ∀ u, (Term.cells us[i])[k]? = some u → w.cell? ⟨g, i * 6 + k, none⟩ = some u := fun k hk u hu => by
      have := hc (i * 6 + k) u (by rw [cells_at us i k hi hk]; exact hu)
      rwa [add_plain] at this
    rw [add_plain]
    exact ⟨hk 0 (by omega) _ rfl, hk 1 (by omega) _ rfl, hk 2 (by omega) _ rfl, hk 3 (by omega) _ rfl, hk 4 (by omega) _ rfl, hk 5 (by omega) _ rfl⟩

/-! The plain law on bounds. -/
theorem boundsF_more (f : List UInt8) (ts : List Term) (t : Term) : boundsF f (ts ++ [t]) = boundStep f (boundsF f ts) t := by
  unfold boundsF
  rw [List.foldl_append]
  rfl
theorem narrowed_mono (t : Term) (b : Int × Int) : b.1 ≤ (narrowed t b).1 ∧ (narrowed t b).2 ≤ b.2 := by
  unfold narrowed
  repeat' split
  all_goals first | omega | (simp only []; omega)
/-- A term narrows the bounds; one of another field leaves them. -/
theorem bounds_narrow (f : List UInt8) (ts : List Term) (t : Term) : (boundsF f ts).1 ≤ (boundsF f (ts ++ [t])).1 ∧ (boundsF f (ts ++ [t])).2 ≤ (boundsF f ts).2 ∧ (t.field.toList ≠ f → boundsF f (ts ++ [t]) = boundsF f ts) := by
  rw [boundsF_more]
  unfold boundStep
  split
  · exact ⟨(narrowed_mono _ _).1, (narrowed_mono _ _).2, fun h => absurd ‹_› h⟩
  · exact ⟨Int.le_refl _, Int.le_refl _, fun _ => rfl⟩
theorem field_num {f : List UInt8} (h : f = startL ∨ f = durL) : isText f = false ∧ isNum f = true := by
  rcases h with rfl | rfl <;> decide
theorem narrowed_hold {t : Term} {s : Span} {b : Int × Int} {nn : Int} (hf : t.field.toList = startL ∨ t.field.toList = durL) (h1 : OneP t) (hm : t.num ≤ 9223372036854775807) (hh : HoldP t s) (hd : 0 ≤ s.dur) (hst : 0 ≤ s.start)
    (hn : NN t.field.toList s nn) (h63 : nn ≤ 9223372036854775807) (hnn : 0 ≤ nn) (hb : b.1 ≤ nn ∧ nn ≤ b.2) : (narrowed t b).1 ≤ nn ∧ nn ≤ (narrowed t b).2 := by
  obtain ⟨n1, n2⟩ := field_num hf
  obtain ⟨-, h0⟩ := h1.2.1 n1 n2
  obtain ⟨n, want, hni, hw, hr⟩ := hh.1 n2
  have hwn : want = t.num := hw h0 hm
  have hnn2 : n = nn := by
    rcases hf with h | h
    · rw [hni.1 h hst, hn.1 h]
    · rw [hni.2.1 h hd, hn.2 h]
  subst hwn
  subst hnn2
  unfold relF at hr
  unfold narrowed
  by_cases r0 : t.rel = 0
  · simp [r0] at hr ⊢; omega
  · by_cases r2 : t.rel = 2
    · simp [r2] at hr ⊢; simp only [wrap64]; omega
    · by_cases r3 : t.rel = 3
      · simp [r3] at hr ⊢; omega
      · by_cases r4 : t.rel = 4
        · simp [r4] at hr ⊢; simp only [wrap64]; split <;> omega
        · by_cases r5 : t.rel = 5
          · simp [r5] at hr ⊢; omega
          · simp [r0, r2, r3, r4, r5]; omega
theorem bounds_hold {f : List UInt8} {s : Span} {nn : Int} (hf : f = startL ∨ f = durL) (hd : 0 ≤ s.dur) (hst : 0 ≤ s.start) (hn : NN f s nn) (h63 : nn ≤ 9223372036854775807) (hnn : 0 ≤ nn) :
    ∀ (ts : List Term) (b : Int × Int), (∀ t ∈ ts, OneP t) → NumsOk ts → MatchP (ofField f ts) s → b.1 ≤ nn ∧ nn ≤ b.2 → (ts.foldl (boundStep f) b).1 ≤ nn ∧ nn ≤ (ts.foldl (boundStep f) b).2
  | [], b, _, _, _, hb => hb
  | t :: ts, b, h1, h2, h3, hb => by
    simp only [List.foldl_cons]
    refine bounds_hold hf hd hst hn h63 hnn ts _ (fun u hu => h1 u (by simp [hu])) (fun u hu => h2 u (by simp [hu])) (fun u hu => h3 u ?_) ?_
    · unfold ofField at hu ⊢
      simp only [List.filter_cons]
      split
      · exact List.mem_cons_of_mem _ hu
      · exact hu
    · unfold boundStep
      split
      · rename_i e
        refine narrowed_hold (by rw [e]; exact hf) (h1 t (by simp)) (h2 t (by simp)).2 (h3 t ?_) hd hst (by rw [e]; exact hn) h63 hnn hb
        unfold ofField
        simp [List.filter_cons, e]
      · exact hb
/-- THE LAW's FIRST HALF: a span that matches the terms of a field lies within its bounds. -/
theorem law_in {ts : List Term} {o : Int} {t : Term} {s : Span} {f : List UInt8} {nn : Int} (hf : f = startL ∨ f = durL) (hl : Let_ ts o t s) (hN : NumsOk ts) (hs : SpanNums s) (hn : NN f s nn) (hm : MatchP (ofField f ts) s) : (boundsF f ts).1 ≤ nn ∧ nn ≤ (boundsF f ts).2 := by
  have h1 := hl.2.2.2.1
  have h2 := hl.2.2.2.2
  have h3 := hs.2.2.1.2
  have h4 := hs.2.2.2.2
  have hb : 0 ≤ nn ∧ nn ≤ 9223372036854775807 := by
    rcases hf with h | h
    · rw [hn.1 h]; omega
    · rw [hn.2 h]; omega
  exact bounds_hold hf h1 h2 hn hb.2 hb.1 ts (0, 9223372036854775807) hl.1.1 hN hm hb
theorem ofField_num {f : List UInt8} (hf : f = startL ∨ f = durL) (ts : List Term) : ∀ t ∈ ofField f ts, isNum t.field.toList = true := by
  intro t ht
  unfold ofField at ht
  have : t.field.toList = f := by simpa using (List.mem_filter.1 ht).2
  rw [this]
  exact (field_num hf).2
theorem asked_num {f : List UInt8} (hf : f = startL ∨ f = durL) (ts : List Term) (s : Span) (w : World) (hs : SpanNums s) : Asked (ofField f ts) s w := fun t ht w' _ => holds_num t s w' hs (ofField_num hf ts t ht)
end Go.Proofs.Ytmckgcooehdbaaa
