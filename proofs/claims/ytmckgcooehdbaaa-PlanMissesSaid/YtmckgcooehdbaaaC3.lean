/- What a query, a term and five truths read as in memory. No condition beyond those that each theorem names. -/
import Derived.Test.YtmckgcooehdbaaaRows
import Derived.Test.YtmckgcooehdbaaaC
import Derived.ProofKit
import Derived.OpenShut
import Derived.ShutString
import Derived.ChangeOld
import Derived.Deep.Slices
import Derived.Deep.Strs
import Derived.Lib.SmallJoins
set_option linter.unusedVariables false
set_option linter.unusedSimpArgs false
namespace Go.Proofs.Ytmckgcooehdbaaa
open Go.ChangeShapes Go.WideShapes Go.ChangeAt Go.RowKit Go.Deep Go.Joins
open Go.ChangeMaps (open_string shut_string)

theorem own_knob : ownKnob Try.prog.godebug = none := by kernel_rfl
theorem laid_out : laidOutB Try.prog = true := by kernel_rfl

theorem cells_term : Try.prog.cellsOf 47 = 6 := by kernel_rfl
theorem cells_value : Try.prog.cellsOf 45 = 4 := by kernel_rfl
theorem cells_string : Try.prog.cellsOf 9 = 1 := by kernel_rfl
theorem cells_int : Try.prog.cellsOf 3 = 1 := by kernel_rfl
theorem cells_int64 : Try.prog.cellsOf 2 = 1 := by kernel_rfl
theorem cells_bool : Try.prog.cellsOf 4 = 1 := by kernel_rfl
theorem cells_terms : Try.prog.cellsOf 22 = 1 := by kernel_rfl
theorem cells_query : Try.prog.cellsOf 24 = 2 := by kernel_rfl
theorem cells_ready : Try.prog.cellsOf 25 = 5 := by kernel_rfl

section
variable {H : Type} {enc : TypeId × Value → H} {W : World} {base : Nat} {spare : Nat → Bool} {held : Bool}

theorem read_value {fuel : Nat} {cs : List Value} {x : DataW H × List MemPlace} (h : DataW.trod enc Try.prog W base spare held fuel 45 cs = some x) :
    ∃ (kind : Int) (text : ByteArray) (num : Int) (tru : Bool), cs = [.int .i64 kind, .string text, .int .i64 num, .bool tru] ∧ (-9223372036854775808 ≤ num ∧ num ≤ 9223372036854775807) ∧ text.size ≤ maxLen := by
  obtain ⟨y0, y1, y2, y3, n, rfl, hl, h0, h1, h2, h3⟩ := trod_struct4 Try.underlying45 h
  rw [cells_value] at hl
  match cs, hl with
  | [c0, c1, c2, c3], _ =>
    simp only [cells_int, cells_string, cells_int64, cells_bool, List.drop_zero, List.drop_succ_cons, List.take_succ_cons, List.take_zero] at h0 h1 h2 h3
    obtain ⟨k, e0, _, _⟩ := DataW.trod_int Try.underlying3 h0
    obtain ⟨s, e1, _, hs⟩ := DataW.trod_string Try.underlying9 h1
    obtain ⟨m, e2, _, wf⟩ := DataW.trod_int Try.underlying2 h2
    obtain ⟨b, e3, _⟩ := DataW.trod_bool Try.underlying4 h3
    simp only [List.cons.injEq, and_true] at e0 e1 e2 e3
    subst e0 e1 e2 e3
    exact ⟨k, s, m, b, rfl, by simp [Lit.wf, IntKind.min, IntKind.max, IntKind.signed, IntKind.bits] at wf; omega, hs⟩

/-- What a term's six cells read as. -/
theorem read_term {fuel : Nat} {cs : List Value} {x : DataW H × List MemPlace} (h : DataW.trod enc Try.prog W base spare held fuel 47 cs = some x) :
    ∃ t : Term, cs = [.string t.field, .int .i64 t.rel, .int .i64 t.kind, .string t.text, .int .i64 t.num, .bool t.tru] ∧ -9223372036854775808 ≤ t.num ∧ t.num ≤ 9223372036854775807 := by
  obtain ⟨y0, y1, y2, n, rfl, hl, h0, h1, h2⟩ := trod_struct3 Try.underlying47 h
  rw [cells_term] at hl
  match cs, hl with
  | [c0, c1, c2, c3, c4, c5], _ =>
    simp only [cells_int, cells_string, cells_value, List.drop_zero, List.drop_succ_cons, List.take_succ_cons, List.take_zero] at h0 h1 h2
    obtain ⟨s, e0, _, hs⟩ := DataW.trod_string Try.underlying9 h0
    obtain ⟨k, e1, _, _⟩ := DataW.trod_int Try.underlying3 h1
    obtain ⟨kd, tx, nm, tr, e2, hn, _⟩ := read_value h2
    simp only [List.cons.injEq, and_true] at e0 e1 e2
    obtain ⟨rfl, rfl, rfl, rfl⟩ := e2
    subst e0 e1
    exact ⟨⟨s, k, kd, tx, nm, tr⟩, rfl, hn⟩

theorem reads_cells {a : Addr} : ∀ {n : Nat} {cs : List Value}, W.cells? base a n = some cs → cs.length = n ∧ ∀ j u, cs[j]? = some u → W.cell? (a.add j) = some u := by
  intro n cs h
  obtain ⟨_, hl, hc⟩ := World.cells?_some h
  exact ⟨hl, fun j u hj => by rw [hc j (by have := (List.getElem?_eq_some_iff.1 hj).1; omega)]; exact hj⟩

/-- What a query's two cells read as. -/
theorem read_query {fuel : Nat} {cs : List Value} {x : DataW H × List MemPlace} (h : DataW.trod enc Try.prog W base spare held fuel 24 cs = some x) :
    ∃ A n c ts o, cs = [.slice A n c, .int .i64 o] ∧ TermsAt W A n ts ∧ NumsOk ts := by
  obtain ⟨y0, y1, m, rfl, hl, h0, h1⟩ := trod_struct2 Try.underlying24 h
  rw [cells_query] at hl
  match cs, hl with
  | [c0, c1], _ =>
    simp only [cells_int, cells_terms, List.drop_zero, List.drop_succ_cons, List.take_succ_cons, List.take_zero] at h0 h1
    obtain ⟨o, e1, _, _⟩ := DataW.trod_int Try.underlying3 h1
    simp only [List.cons.injEq, and_true] at e1
    subst e1
    rcases open_slice Try.underlying22 h0 with ⟨e0, _⟩ | ⟨a, len, cap, m', k, D, Pl, e0, _, hlc, hcm, hm', _, hel⟩
    · simp only [List.cons.injEq, and_true] at e0
      subst e0
      exact ⟨none, 0, 0, [], o, rfl, ⟨rfl, by decide, fun i hi => absurd hi (by simp)⟩, fun t ht => by cases ht⟩
    · simp only [List.cons.injEq, and_true] at e0
      subst e0
      have hmm : len ≤ m' := by rw [hm']; split <;> omega
      have hall : ∀ i, i < len → ∃ t : Term, TermAt W (a.add (i * 6)) t ∧ -9223372036854775808 ≤ t.num ∧ t.num ≤ 9223372036854775807 := by
        intro i hi
        obtain ⟨cs', hc, ht⟩ := hel i (by omega)
        rw [cells_term] at hc
        obtain ⟨t, rfl, hn⟩ := read_term ht
        obtain ⟨_, hcell⟩ := reads_cells hc
        refine ⟨t, ⟨?_, ?_, ?_, ?_, ?_, ?_⟩, hn⟩
        · have := hcell 0 _ rfl; simpa [Addr.add] using this
        · have := hcell 1 _ rfl; simpa [Addr.add] using this
        · have := hcell 2 _ rfl; simpa [Addr.add] using this
        · have := hcell 3 _ rfl; simpa [Addr.add] using this
        · have := hcell 4 _ rfl; simpa [Addr.add] using this
        · have := hcell 5 _ rfl; simpa [Addr.add] using this
      haveI : Inhabited Term := ⟨⟨⟨#[]⟩, 0, 0, ⟨#[]⟩, 0, false⟩⟩
      obtain ⟨f, hf⟩ := choose_lt hall
      refine ⟨some a, len, cap, (List.range len).map f, o, rfl, ⟨by simp, by unfold maxLen at hcm; omega, fun i hi => ⟨a, rfl, ?_⟩⟩, ?_⟩
      · simp only [List.length_map, List.length_range] at hi
        simpa using (hf i hi).1
      · intro t ht
        simp only [List.mem_map, List.mem_range] at ht
        obtain ⟨i, hi, rfl⟩ := ht
        exact (hf i hi).2

/-- What five cells of truths read as. -/
theorem read_ready {fuel : Nat} {cs : List Value} {x : DataW H × List MemPlace} (h : DataW.trod enc Try.prog W base spare held fuel 25 cs = some x) :
    ∃ r0 r1 r2 r3 r4, cs = [.bool r0, .bool r1, .bool r2, .bool r3, .bool r4] := by
  obtain ⟨xs, m, _, _, hl, hx, hel⟩ := DataW.trod_array Try.underlying25 h
  rw [cells_ready] at hl
  match cs, hl, xs, hx with
  | [c0, c1, c2, c3, c4], _, [y0, y1, y2, y3, y4], _ =>
    have k0 := hel 0 (by decide)
    have k1 := hel 1 (by decide)
    have k2 := hel 2 (by decide)
    have k3 := hel 3 (by decide)
    have k4 := hel 4 (by decide)
    simp [cells_bool] at k0 k1 k2 k3 k4
    obtain ⟨b0, e0, _⟩ := DataW.trod_bool Try.underlying4 k0
    obtain ⟨b1, e1, _⟩ := DataW.trod_bool Try.underlying4 k1
    obtain ⟨b2, e2, _⟩ := DataW.trod_bool Try.underlying4 k2
    obtain ⟨b3, e3, _⟩ := DataW.trod_bool Try.underlying4 k3
    obtain ⟨b4, e4, _⟩ := DataW.trod_bool Try.underlying4 k4
    simp only [List.cons.injEq, and_true] at e0 e1 e2 e3 e4
    subst e0 e1 e2 e3 e4
    exact ⟨b0, b1, b2, b3, b4, rfl⟩
end
end Go.Proofs.Ytmckgcooehdbaaa
