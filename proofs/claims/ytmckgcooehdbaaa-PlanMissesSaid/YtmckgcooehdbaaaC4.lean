/- What a span, and its rows of attributes, events and links, read as in memory. No condition beyond those that each theorem names. -/
import Derived.Test.YtmckgcooehdbaaaC3
import Derived.Test.YtmckgcooehdbaaaD1
set_option linter.unusedVariables false
set_option linter.unusedSimpArgs false
namespace Go.Proofs.Ytmckgcooehdbaaa
open Go.ChangeShapes Go.WideShapes Go.ChangeAt Go.RowKit Go.Deep Go.Joins Go.Proofs.YtmckgcooehdbaaaW.PrintWords
open Go.ChangeMaps (open_string shut_string)

/-- A row that is read: its elements have sz cells. -/
structure RowAt {α : Type} (E : World → Addr → α → Prop) (sz : Nat) (w : World) (A : Option Addr) (n : Nat) (xs : List α) : Prop where
  len : xs.length = n
  max : n ≤ 9223372036854775807
  at_ : ∀ i (h : i < xs.length), ∃ ad, A = some ad ∧ E w (ad.add (i * sz)) xs[i]
theorem RowAt.nil {α : Type} {E : World → Addr → α → Prop} {sz : Nat} {w : World} : RowAt E sz w none 0 [] := ⟨rfl, by decide, fun i hi => absurd hi (by simp)⟩
/-- The cells of an attribute, an event, a link. -/
structure AttrAt (w : World) (a : Addr) (t : Attr) : Prop where
  c0 : w.cell? a = some (.string t.name)
  c1 : w.cell? ⟨a.block, a.off + 1, none⟩ = some (.int .i64 t.kind)
  c2 : w.cell? ⟨a.block, a.off + 2, none⟩ = some (.string t.text)
  c3 : w.cell? ⟨a.block, a.off + 3, none⟩ = some (.int .i64 t.num)
  c4 : w.cell? ⟨a.block, a.off + 4, none⟩ = some (.bool t.tru)
theorem AttrAt.below {w w1 : World} {a : Addr} {t : Attr} (h : AttrAt w a t) (hb : Below w.heap.size w w1) : AttrAt w1 a t :=
  ⟨pw_cell_below hb h.c0, pw_cell_below hb h.c1, pw_cell_below hb h.c2, pw_cell_below hb h.c3, pw_cell_below hb h.c4⟩
structure EventAt (w : World) (a : Addr) (t : Int × ByteArray) : Prop where
  c0 : w.cell? a = some (.int .i64 t.1)
  c1 : w.cell? ⟨a.block, a.off + 1, none⟩ = some (.string t.2)
theorem EventAt.below {w w1 : World} {a : Addr} {t : Int × ByteArray} (h : EventAt w a t) (hb : Below w.heap.size w w1) : EventAt w1 a t := ⟨pw_cell_below hb h.c0, pw_cell_below hb h.c1⟩
structure LinkAt (w : World) (a : Addr) (t : Int × Int) : Prop where
  c0 : w.cell? a = some (.int .u64 t.1)
  c1 : w.cell? ⟨a.block, a.off + 1, none⟩ = some (.int .u64 t.2)
theorem LinkAt.below {w w1 : World} {a : Addr} {t : Int × Int} (h : LinkAt w a t) (hb : Below w.heap.size w w1) : LinkAt w1 a t := ⟨pw_cell_below hb h.c0, pw_cell_below hb h.c1⟩
theorem RowAt.below {α : Type} {E : World → Addr → α → Prop} {sz : Nat} {w w1 : World} {A : Option Addr} {n : Nat} {xs : List α} (hE : ∀ a x, E w a x → E w1 a x) (h : RowAt E sz w A n xs) : RowAt E sz w1 A n xs :=
  ⟨h.len, h.max, fun i hi => let ⟨ad, ha, ht⟩ := h.at_ i hi; ⟨ad, ha, hE _ _ ht⟩⟩
/-- A span's three rows. -/
structure SpanRows (w : World) (s : Span) (ats : List Attr) (es : List (Int × ByteArray)) (ls : List (Int × Int)) : Prop where
  a : RowAt AttrAt 5 w s.A1 s.n1 ats
  e : RowAt EventAt 2 w s.A2 s.n2 es
  l : RowAt LinkAt 2 w s.A3 s.n3 ls
theorem SpanRows.below {w w1 : World} {s : Span} {ats : List Attr} {es : List (Int × ByteArray)} {ls : List (Int × Int)} (h : SpanRows w s ats es ls) (hb : Below w.heap.size w w1) : SpanRows w1 s ats es ls :=
  ⟨h.a.below fun _ _ h => h.below hb, h.e.below fun _ _ h => h.below hb, h.l.below fun _ _ h => h.below hb⟩

theorem cells_span : Try.prog.cellsOf 31 = 11 := by kernel_rfl
theorem cells_attr : Try.prog.cellsOf 69 = 5 := by kernel_rfl
theorem cells_event : Try.prog.cellsOf 71 = 2 := by kernel_rfl
theorem cells_link : Try.prog.cellsOf 74 = 2 := by kernel_rfl
theorem cells_u64 : Try.prog.cellsOf 26 = 1 := by kernel_rfl
theorem cells_attrs : Try.prog.cellsOf 27 = 1 := by kernel_rfl
theorem cells_events : Try.prog.cellsOf 28 = 1 := by kernel_rfl
theorem cells_links : Try.prog.cellsOf 29 = 1 := by kernel_rfl

section
variable {H : Type} {enc : TypeId × Value → H} {W : World} {base : Nat} {spare : Nat → Bool} {held : Bool}
theorem read_attr {fuel : Nat} {cs : List Value} {x : DataW H × List MemPlace} (h : DataW.trod enc Try.prog W base spare held fuel 69 cs = some x) :
    ∃ t : Attr, cs = [.string t.name, .int .i64 t.kind, .string t.text, .int .i64 t.num, .bool t.tru] := by
  obtain ⟨y0, y1, n, rfl, hl, h0, h1⟩ := trod_struct2 Try.underlying69 h
  rw [cells_attr] at hl
  match cs, hl with
  | [c0, c1, c2, c3, c4], _ =>
    simp only [cells_string, cells_value, List.drop_zero, List.drop_succ_cons, List.take_succ_cons, List.take_zero] at h0 h1
    obtain ⟨s, e0, _, hs⟩ := DataW.trod_string Try.underlying9 h0
    obtain ⟨kd, tx, nm, tr, e2, hn, _⟩ := read_value h1
    simp only [List.cons.injEq, and_true] at e0 e2
    obtain ⟨rfl, rfl, rfl, rfl⟩ := e2
    subst e0
    exact ⟨⟨s, kd, tx, nm, tr⟩, rfl⟩
theorem read_event {fuel : Nat} {cs : List Value} {x : DataW H × List MemPlace} (h : DataW.trod enc Try.prog W base spare held fuel 71 cs = some x) :
    ∃ t : Int × ByteArray, cs = [.int .i64 t.1, .string t.2] := by
  obtain ⟨y0, y1, n, rfl, hl, h0, h1⟩ := trod_struct2 Try.underlying71 h
  rw [cells_event] at hl
  match cs, hl with
  | [c0, c1], _ =>
    simp only [cells_string, cells_int64, List.drop_zero, List.drop_succ_cons, List.take_succ_cons, List.take_zero] at h0 h1
    obtain ⟨k, e0, _, _⟩ := DataW.trod_int Try.underlying2 h0
    obtain ⟨s, e1, _, hs⟩ := DataW.trod_string Try.underlying9 h1
    simp only [List.cons.injEq, and_true] at e0 e1
    subst e0 e1
    exact ⟨⟨k, s⟩, rfl⟩
theorem read_link {fuel : Nat} {cs : List Value} {x : DataW H × List MemPlace} (h : DataW.trod enc Try.prog W base spare held fuel 74 cs = some x) :
    ∃ t : Int × Int, cs = [.int .u64 t.1, .int .u64 t.2] := by
  obtain ⟨y0, y1, n, rfl, hl, h0, h1⟩ := trod_struct2 Try.underlying74 h
  rw [cells_link] at hl
  match cs, hl with
  | [c0, c1], _ =>
    simp only [cells_u64, List.drop_zero, List.drop_succ_cons, List.take_succ_cons, List.take_zero] at h0 h1
    obtain ⟨k, e0, _, _⟩ := DataW.trod_int Try.underlying26 h0
    obtain ⟨s, e1, _, hs⟩ := DataW.trod_int Try.underlying26 h1
    simp only [List.cons.injEq, and_true] at e0 e1
    subst e0 e1
    exact ⟨⟨k, s⟩, rfl⟩
/-- A slice of structs, element by element. -/
theorem read_rows {α : Type} (E : World → Addr → α → Prop) {t e : TypeId} {sz : Nat} (ht : Try.prog.underlying t = some (.slice e)) (hc : Try.prog.cellsOf e = sz) [Inhabited α]
    (hE : ∀ (fuel : Nat) (cs : List Value) (x : DataW H × List MemPlace) (a : Addr), DataW.trod enc Try.prog W base spare held fuel e cs = some x → (∀ j u, cs[j]? = some u → W.cell? (a.add j) = some u) → ∃ t, E W a t)
    {fuel : Nat} {cs : List Value} {x : DataW H × List MemPlace} (h : DataW.trod enc Try.prog W base spare held fuel t cs = some x) :
    ∃ A n c xs, cs = [.slice A n c] ∧ RowAt E sz W A n xs := by
  rcases open_slice ht h with ⟨e0, _⟩ | ⟨a, len, cap, m', k, D, Pl, e0, _, hlc, hcm, hm', _, hel⟩
  · exact ⟨none, 0, 0, [], e0, RowAt.nil⟩
  · have hmm : len ≤ m' := by rw [hm']; split <;> omega
    have hall : ∀ i, i < len → ∃ t, E W (a.add (i * sz)) t := by
      intro i hi
      obtain ⟨cs', hc', ht'⟩ := hel i (by omega)
      rw [hc] at hc'
      exact hE _ _ _ _ ht' (reads_cells hc').2
    obtain ⟨f, hf⟩ := choose_lt hall
    refine ⟨some a, len, cap, (List.range len).map f, e0, by simp, by unfold maxLen at hcm; omega, fun i hi => ⟨a, rfl, ?_⟩⟩
    simp only [List.length_map, List.length_range] at hi
    simpa using hf i hi

instance : Inhabited Attr := ⟨⟨⟨#[]⟩, 0, ⟨#[]⟩, 0, false⟩⟩
instance : Inhabited (Int × ByteArray) := ⟨⟨0, ⟨#[]⟩⟩⟩

theorem read_span {fuel : Nat} {cs : List Value} {x : DataW H × List MemPlace} (h : DataW.trod enc Try.prog W base spare held fuel 31 cs = some x) :
    ∃ s ats es ls, cs = [.int .u64 (Span.trace s), .int .u64 s.id, .int .u64 s.parent, .string s.service, .string s.op, .int .i64 s.start, .int .i64 s.dur, .int .i64 s.status, .slice s.A1 s.n1 s.c1, .slice s.A2 s.n2 s.c2, .slice s.A3 s.n3 s.c3] ∧ SpanNums s ∧ SpanRows W s ats es ls := by
  obtain ⟨xs, n, _, rfl, hl, hlen, hf⟩ := DataW.trod_struct Try.underlying31 h
  rw [cells_span] at hl
  match cs, hl, xs, hlen with
  | [c0, c1, c2, c3, c4, c5, c6, c7, c8, c9, c10], _, [y0, y1, y2, y3, y4, y5, y6, y7, y8, y9, y10], _ =>
    have h0 := hf 0 _ rfl
    have h1 := hf 1 _ rfl
    have h2 := hf 2 _ rfl
    have h3 := hf 3 _ rfl
    have h4 := hf 4 _ rfl
    have h5 := hf 5 _ rfl
    have h6 := hf 6 _ rfl
    have h7 := hf 7 _ rfl
    have h8 := hf 8 _ rfl
    have h9 := hf 9 _ rfl
    have h10 := hf 10 _ rfl
    simp only [List.getElem_toArray, List.getElem_cons_zero, List.getElem_cons_succ, cells_u64, cells_string, cells_int64, cells_int, cells_attrs, cells_events, cells_links, List.drop_zero, List.drop_succ_cons, List.take_succ_cons, List.take_zero, List.getElem?_cons_zero, List.getElem?_cons_succ] at h0 h1 h2 h3 h4 h5 h6 h7 h8 h9 h10
    obtain ⟨v0, e0, _, w0⟩ := DataW.trod_int Try.underlying26 h0
    obtain ⟨v1, e1, _, w1⟩ := DataW.trod_int Try.underlying26 h1
    obtain ⟨v2, e2, _, w2⟩ := DataW.trod_int Try.underlying26 h2
    obtain ⟨v3, e3, _, w3⟩ := DataW.trod_string Try.underlying9 h3
    obtain ⟨v4, e4, _, w4⟩ := DataW.trod_string Try.underlying9 h4
    obtain ⟨v5, e5, _, w5⟩ := DataW.trod_int Try.underlying2 h5
    obtain ⟨v6, e6, _, w6⟩ := DataW.trod_int Try.underlying2 h6
    obtain ⟨v7, e7, _, w7⟩ := DataW.trod_int Try.underlying3 h7
    obtain ⟨A1, n1, k1, ats, e8, r8⟩ := read_rows AttrAt Try.underlying27 cells_attr (fun fuel cs x a ht hcell => by
      obtain ⟨t, rfl⟩ := read_attr ht
      exact ⟨t, by simpa [Addr.add] using hcell 0 _ rfl, by simpa [Addr.add] using hcell 1 _ rfl, by simpa [Addr.add] using hcell 2 _ rfl, by simpa [Addr.add] using hcell 3 _ rfl, by simpa [Addr.add] using hcell 4 _ rfl⟩) h8
    obtain ⟨A2, n2, k2, es, e9, r9⟩ := read_rows EventAt Try.underlying28 cells_event (fun fuel cs x a ht hcell => by
      obtain ⟨t, rfl⟩ := read_event ht
      exact ⟨t, by simpa [Addr.add] using hcell 0 _ rfl, by simpa [Addr.add] using hcell 1 _ rfl⟩) h9
    obtain ⟨A3, n3, k3, ls, e10, r10⟩ := read_rows LinkAt Try.underlying29 cells_link (fun fuel cs x a ht hcell => by
      obtain ⟨t, rfl⟩ := read_link ht
      exact ⟨t, by simpa [Addr.add] using hcell 0 _ rfl, by simpa [Addr.add] using hcell 1 _ rfl⟩) h10
    simp only [List.cons.injEq, and_true] at e0 e1 e2 e3 e4 e5 e6 e7 e8 e9 e10
    subst e0 e1 e2 e3 e4 e5 e6 e7 e8 e9 e10
    refine ⟨⟨v0, v1, v2, v3, v4, v5, v6, v7, A1, n1, k1, A2, n2, k2, A3, n3, k3⟩, ats, es, ls, rfl, ?_, r8, r9, r10⟩
    simp [Lit.wf, IntKind.min, IntKind.max, IntKind.signed, IntKind.bits] at w0 w1 w5 w6
    exact ⟨by omega, by omega, by omega, by omega⟩
end
end Go.Proofs.Ytmckgcooehdbaaa
