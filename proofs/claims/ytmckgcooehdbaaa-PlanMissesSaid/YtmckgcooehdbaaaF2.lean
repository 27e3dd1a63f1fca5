/- The contracts of at, Key of an order and Small of a span, in the words of this seat. No condition beyond those that each theorem names. -/
import Derived.Test.YtmckgcooehdbaaaF1
set_option linter.unusedVariables false
set_option linter.unusedSimpArgs false
namespace Go.Proofs.Ytmckgcooehdbaaa
open Go.RowKit Go.Proofs.YtmckgcooehdbaaaW.PrintWords Go.Proofs.Ytmckgcooehdbaaa.PMiss
open Go.ChangeShapes Go.WideShapes Go.ChangeAt Go.Deep Go.Joins

/-- No slice of a span is longer than its room. -/
def SpanCaps (s : Span) : Prop := s.n1 ≤ s.c1 ∧ s.n2 ≤ s.c2 ∧ s.n3 ≤ s.c3
section
variable {H : Type} {enc : TypeId × Value → H} {W : World} {base : Nat} {spare : Nat → Bool} {held : Bool}
theorem slice_cap {t e : TypeId} (ht : Try.prog.underlying t = some (.slice e)) {fuel : Nat} {A : Option Addr} {n c : Nat} {x : DataW H × List MemPlace} (h : DataW.trod enc Try.prog W base spare held fuel t [.slice A n c] = some x) : n ≤ c := by
  rcases open_slice ht h with ⟨e0, _⟩ | ⟨a, len, cap, m', k, D, Pl, e0, _, hlc, _⟩
  · simp at e0; omega
  · simp at e0; omega
theorem read_caps {fuel : Nat} {s : Span} {x : DataW H × List MemPlace} (h : DataW.trod enc Try.prog W base spare held fuel 31 [.int .u64 (Span.trace s), .int .u64 s.id, .int .u64 s.parent, .string s.service, .string s.op, .int .i64 s.start, .int .i64 s.dur, .int .i64 s.status, .slice s.A1 s.n1 s.c1, .slice s.A2 s.n2 s.c2, .slice s.A3 s.n3 s.c3] = some x) : SpanCaps s := by
  obtain ⟨xs, n, _, rfl, hl, hlen, hf⟩ := DataW.trod_struct Try.underlying31 h
  match xs, hlen with
  | [y0, y1, y2, y3, y4, y5, y6, y7, y8, y9, y10], _ =>
    have h8 := hf 8 _ rfl
    have h9 := hf 9 _ rfl
    have h10 := hf 10 _ rfl
    simp only [List.getElem_toArray, List.getElem_cons_zero, List.getElem_cons_succ, cells_attrs, cells_events, cells_links, List.drop_zero, List.drop_succ_cons, List.take_succ_cons, List.take_zero, List.getElem?_cons_zero, List.getElem?_cons_succ] at h8 h9 h10
    exact ⟨slice_cap Try.underlying27 h8, slice_cap Try.underlying28 h9, slice_cap Try.underlying29 h10⟩
end

def toA (a : Attr) : S69 := ⟨a.name, ⟨a.kind, a.text, a.num, a.tru⟩⟩
def toE (e : Int × ByteArray) : S71 := ⟨e.1, e.2⟩
def toL (e : Int × Int) : S74 := ⟨e.1, e.2⟩
theorem row_C {α β : Type} {E : World → Addr → α → Prop} {sz : Nat} {w : World} {A : Option Addr} {n : Nat} {xs : List α} {d : Kd β} (f : α → β) (hsz : d.sz = sz) (h : RowAt E sz w A n xs)
    (hE : ∀ a x, E w a x → ∃ c, c.length = sz ∧ d.K w (f x) c ∧ ∀ i u, c[i]? = some u → w.cell? (a.add i) = some u) (hadd : ∀ (a : Addr) (j i : Nat), i < sz → a.add (j * sz + i) = (a.add (j * sz)).add i) : Kd.C d w A n (xs.map f) := by
  subst hsz
  refine ⟨by simp [h.len], h.max, fun hn => ?_⟩
  obtain ⟨ad, rfl, _⟩ := h.at_ 0 (by have := h.len; omega)
  refine ⟨ad, rfl, fun j p hp => ?_⟩
  rw [List.getElem?_map, Option.map_eq_some_iff] at hp
  obtain ⟨x, hx, rfl⟩ := hp
  obtain ⟨hj, rfl⟩ := List.getElem?_eq_some_iff.1 hx
  obtain ⟨ad', e, hat⟩ := h.at_ j hj
  cases e
  obtain ⟨c, hl, hK, hc⟩ := hE _ _ hat
  exact ⟨c, hl, hK, fun i u hu => by rw [hadd _ _ _ (by have := (List.getElem?_eq_some_iff.1 hu).1; omega)]; exact hc i u hu⟩
theorem add_add (a : Addr) (j i : Nat) : a.add (j + i) = (a.add j).add i := by
  by_cases hj : j = 0
  · subst hj; simp [Addr.add]
  · by_cases hi : i = 0
    · subst hi; simp [Addr.add]
    · simp [Addr.add, hj, hi]; omega
theorem rowA {w : World} {A : Option Addr} {n : Nat} {xs : List Attr} (h : RowAt AttrAt 5 w A n xs) : Kd.C k69 w A n (xs.map toA) :=
  row_C toA rfl h (fun a x hx => ⟨_, rfl, k69_mk w (toA x), fun i u hu => by
    match i, hu with
    | 0, hu => cases hu; simpa [Addr.add, toA] using hx.c0
    | 1, hu => cases hu; simpa [Addr.add, toA] using hx.c1
    | 2, hu => cases hu; simpa [Addr.add, toA] using hx.c2
    | 3, hu => cases hu; simpa [Addr.add, toA] using hx.c3
    | 4, hu => cases hu; simpa [Addr.add, toA] using hx.c4
    | n + 5, hu => cases hu⟩) (fun a j i _ => add_add a _ i)
theorem rowE {w : World} {A : Option Addr} {n : Nat} {xs : List (Int × ByteArray)} (h : RowAt EventAt 2 w A n xs) : Kd.C k71 w A n (xs.map toE) :=
  row_C toE rfl h (fun a x hx => ⟨_, rfl, k71_mk w (toE x), fun i u hu => by
    match i, hu with
    | 0, hu => cases hu; simpa [Addr.add, toE] using hx.c0
    | 1, hu => cases hu; simpa [Addr.add, toE] using hx.c1
    | n + 2, hu => cases hu⟩) (fun a j i _ => add_add a _ i)
theorem rowL {w : World} {A : Option Addr} {n : Nat} {xs : List (Int × Int)} (h : RowAt LinkAt 2 w A n xs) : Kd.C k74 w A n (xs.map toL) :=
  row_C toL rfl h (fun a x hx => ⟨_, rfl, k74_mk w (toL x), fun i u hu => by
    match i, hu with
    | 0, hu => cases hu; simpa [Addr.add, toL] using hx.c0
    | 1, hu => cases hu; simpa [Addr.add, toL] using hx.c1
    | n + 2, hu => cases hu⟩) (fun a j i _ => add_add a _ i)

/-- A row of bytes that is told. -/
def TellsRow (xs : List Int) (w : World) (e : Ending) (w' : World) : Prop := ∃ v, e = .returned v ∧ ReadV w' v xs ∧ Below w.heap.size w w'
theorem of_R {w : World} {base : Nat} {ok : Nat → Prop} {v : Value} {xs : List Int} (h : Kd.R (Kd.int .u8) 5 w base ok v xs) : ReadV w v xs := by
  obtain ⟨A, c, rfl, hc, hr⟩ := Kd.R_reads h
  refine ⟨A, c, rfl, hc, rfl, hr.2.1, fun h0 => ?_⟩
  obtain ⟨ad, ha, _⟩ := Kd.at_int hr 0 (by omega) (by omega)
  refine ⟨ad, ha, fun j hj => ?_⟩
  obtain ⟨ad', ha', hcell⟩ := Kd.at_int hr j (by omega) (by omega)
  rw [ha] at ha'
  cases ha'
  simpa [rd] using hcell

theorem at_any (i : Int) (s : Span) {ats : List Attr} {es : List (Int × ByteArray)} {ls : List (Int × Int)} (w : World) (hs : SpanNums s) (hr : SpanRows w s ats es ls) (hc : SpanCaps s) (hsv : s.service.size ≤ 32) (hop : s.op.size ≤ 32) (hi : 0 ≤ i ∧ i ≤ 4) :
    Calls Try.prog 11 #[.int .i64 i, .agg #[.int .u64 s.trace, .int .u64 s.id, .int .u64 s.parent, .string s.service, .string s.op, .int .i64 s.start, .int .i64 s.dur, .int .i64 s.status, .slice s.A1 s.n1 s.c1, .slice s.A2 s.n2 s.c2, .slice s.A3 s.n3 s.c3]] w fun e w' => TellsRow (atB i s) w e w' := by
  have l1 : (ats.map toA).length = s.n1 := by simp [hr.a.len]
  have l2 : (es.map toE).length = s.n2 := by simp [hr.e.len]
  have l3 : (ls.map toL).length = s.n3 := by simp [hr.l.len]
  have h := cambiumlaw23_at.calls 10 i s.trace s.id s.parent s.service s.op s.start s.dur s.status s.A1 s.c1 (ats.map toA) s.A2 s.c2 (es.map toE) s.A3 s.c3 (ls.map toL) (atB i s) w
    (by rw [l1]; exact rowA hr.a) (by rw [l1]; exact hc.1) (by rw [l2]; exact rowE hr.e) (by rw [l2]; exact hc.2.1) (by rw [l3]; exact rowL hr.l) (by rw [l3]; exact hc.2.2) (at_f 10 i hs hsv hop hi (by omega))
  rw [l1, l2, l3] at h
  exact h.mono fun e w' ⟨v, he, hR, hb⟩ => ⟨v, he, of_R hR, hb⟩
theorem order_any (o : Int) (s : Span) {ats : List Attr} {es : List (Int × ByteArray)} {ls : List (Int × Int)} (w : World) (hs : SpanNums s) (hr : SpanRows w s ats es ls) (hc : SpanCaps s) :
    Calls Try.prog 14 #[.int .i64 o, .agg #[.int .u64 s.trace, .int .u64 s.id, .int .u64 s.parent, .string s.service, .string s.op, .int .i64 s.start, .int .i64 s.dur, .int .i64 s.status, .slice s.A1 s.n1 s.c1, .slice s.A2 s.n2 s.c2, .slice s.A3 s.n3 s.c3]] w fun e w' => TellsRow (orderB o s) w e w' := by
  have l1 : (ats.map toA).length = s.n1 := by simp [hr.a.len]
  have l2 : (es.map toE).length = s.n2 := by simp [hr.e.len]
  have l3 : (ls.map toL).length = s.n3 := by simp [hr.l.len]
  have h := cambiumref22_Key.calls 10 o s.trace s.id s.parent s.service s.op s.start s.dur s.status s.A1 s.c1 (ats.map toA) s.A2 s.c2 (es.map toE) s.A3 s.c3 (ls.map toL) (orderB o s) w
    (by rw [l1]; exact rowA hr.a) (by rw [l1]; exact hc.1) (by rw [l2]; exact rowE hr.e) (by rw [l2]; exact hc.2.1) (by rw [l3]; exact rowL hr.l) (by rw [l3]; exact hc.2.2) (order_f 10 o hs (by omega))
  rw [l1, l2, l3] at h
  exact h.mono fun e w' ⟨v, he, hR, hb⟩ => ⟨v, he, of_R hR, hb⟩
theorem small16_any (s : Span) {ats : List Attr} {es : List (Int × ByteArray)} {ls : List (Int × Int)} (w : World) (hr : SpanRows w s ats es ls) (hc : SpanCaps s) (h1 : s.n1 ≤ 9223372036854775807) (h2 : s.n2 ≤ 9223372036854775807) :
    Calls Try.prog 18 #[.agg #[.int .u64 s.trace, .int .u64 s.id, .int .u64 s.parent, .string s.service, .string s.op, .int .i64 s.start, .int .i64 s.dur, .int .i64 s.status, .slice s.A1 s.n1 s.c1, .slice s.A2 s.n2 s.c2, .slice s.A3 s.n3 s.c3]] w fun e w' => AnyB w e w' := by
  have l1 : (ats.map toA).length = s.n1 := by simp [hr.a.len]
  have l2 : (es.map toE).length = s.n2 := by simp [hr.e.len]
  have l3 : (ls.map toL).length = s.n3 := by simp [hr.l.len]
  obtain ⟨k, r, hk⟩ := small16_f (s := s) (l8 := ats.map toA) (l9 := es.map toE) (l10 := ls.map toL) (by omega) (by omega)
  have h := cambiumref16_Small.calls k s.trace s.id s.parent s.service s.op s.start s.dur s.status s.A1 s.c1 (ats.map toA) s.A2 s.c2 (es.map toE) s.A3 s.c3 (ls.map toL) r w
    (by rw [l1]; exact rowA hr.a) (by rw [l1]; exact hc.1) (by rw [l2]; exact rowE hr.e) (by rw [l2]; exact hc.2.1) (by rw [l3]; exact rowL hr.l) (by rw [l3]; exact hc.2.2) hk
  rw [l1, l2, l3] at h
  exact h.mono fun e w' ⟨he, hb⟩ => ⟨r, he, hb⟩
/-- The signs of a pattern. -/
def TellsSigns (w : World) (e : Ending) (w' : World) : Prop := ∃ v xs, e = .returned v ∧ w'.ownsRow w.heap.size 3 1 v xs.length (nums .i64 xs) ∧ xs.length ≤ 100001 ∧ Below w.heap.size w w'
end Go.Proofs.Ytmckgcooehdbaaa
