/- The contract of Holds at a number's field, for every term and span; the contract of Match out of Holds' own, for every row of terms. -/
import Derived.Test.YtmckgcooehdbaaaD1
import Derived.StillTailTactics
set_option linter.unusedVariables false
set_option linter.unusedSimpArgs false
namespace Go.Proofs.Ytmckgcooehdbaaa
open Go.RowKit Go.Proofs.YtmckgcooehdbaaaW.PrintWords

/-- A span in a block. -/
def SBox (w : World) (g : Nat) (s : Span) : Prop := w.heap[g]? = some (.cells #[.int .u64 s.trace, .int .u64 s.id, .int .u64 s.parent, .string s.service, .string s.op, .int .i64 s.start, .int .i64 s.dur, .int .i64 s.status, .slice s.A1 s.n1 s.c1, .slice s.A2 s.n2 s.c2, .slice s.A3 s.n3 s.c3] 31 (0, 0))
theorem SBox.below {w w1 : World} {g : Nat} {s : Span} (h : SBox w g s) (hb : Below w.heap.size w w1) : SBox w1 g s := (hb.block g (Array.getElem?_eq_some_iff.1 h).1).trans h
theorem SBox.cells {w : World} {g : Nat} {s : Span} (h : SBox w g s) :
    w.cell? ⟨g, 0, none⟩ = some (.int .u64 s.trace) ∧ w.cell? ⟨g, 1, none⟩ = some (.int .u64 s.id) ∧ w.cell? ⟨g, 2, none⟩ = some (.int .u64 s.parent) ∧ w.cell? ⟨g, 3, none⟩ = some (.string s.service) ∧ w.cell? ⟨g, 4, none⟩ = some (.string s.op) ∧ w.cell? ⟨g, 5, none⟩ = some (.int .i64 s.start) ∧ w.cell? ⟨g, 6, none⟩ = some (.int .i64 s.dur) ∧ w.cell? ⟨g, 7, none⟩ = some (.int .i64 s.status) ∧ w.cell? ⟨g, 8, none⟩ = some (.slice s.A1 s.n1 s.c1) ∧ w.cell? ⟨g, 9, none⟩ = some (.slice s.A2 s.n2 s.c2) ∧ w.cell? ⟨g, 10, none⟩ = some (.slice s.A3 s.n3 s.c3) := by
  unfold SBox at h
  simp [World.cell?, h]

/-- What a term that holds says. -/
def HoldP (t : Term) (s : Span) : Prop :=
  (isNum t.field.toList = true → ∃ n want, NumIs t.field.toList s n ∧ (0 ≤ t.num → t.num ≤ 9223372036854775807 → want = t.num) ∧ relF t.rel (decide (n < want)) (decide (want < n)) = true) ∧
  (isNum t.field.toList = false → t.rel = 0 → t.kind = 0 → (t.field.toList = svcL → t.text = s.service) ∧ (t.field.toList = opL → t.text = s.op))
def TellsHold (t : Term) (s : Span) (w : World) (e : Ending) (w' : World) : Prop := ∃ b : Bool, e = .returned (.bool b) ∧ (b = true → HoldP t s) ∧ Below w.heap.size w w'
theorem TellsHold.mk_ {t : Term} {s : Span} {w w' : World} {e : Ending} {b : Bool} (h : e = .returned (.bool b)) (hb : Below w.heap.size w w') (hs : b = true → HoldP t s) : TellsHold t s w e w' := ⟨b, h, hs, hb⟩

set_option maxHeartbeats 4000000 in
set_option maxRecDepth 100000 in
theorem holds_num (t : Term) (s : Span) (w : World) (hs : SpanNums s) (hn : isNum t.field.toList = true) :
    Calls Try.prog 26 #[.agg #[.string t.field, .int .i64 t.rel, .int .i64 t.kind, .string t.text, .int .i64 t.num, .bool t.tru], .agg #[.int .u64 s.trace, .int .u64 s.id, .int .u64 s.parent, .string s.service, .string s.op, .int .i64 s.start, .int .i64 s.dur, .int .i64 s.status, .slice s.A1 s.n1 s.c1, .slice s.A2 s.n2 s.c2, .slice s.A3 s.n3 s.c3]] w fun e w' => TellsHold t s w e w' := by
  have HS := Lib.hid hs
  have HN := Lib.hid hn
  clear hs hn
  go_enter Try.func26, Try.ntmps26
  have HB0 := Lib.hid (((Below.refl w.heap.size w).alloc (Nat.le_refl _) (.cells #[.string t.field, .int .i64 t.rel, .int .i64 t.kind, .string t.text, .int .i64 t.num, .bool t.tru] 47)).alloc (by simp) (.cells #[.int .u64 s.trace, .int .u64 s.id, .int .u64 s.parent, .string s.service, .string s.op, .int .i64 s.start, .int .i64 s.dur, .int .i64 s.status, .slice s.A1 s.n1 s.c1, .slice s.A2 s.n2 s.c2, .slice s.A3 s.n3 s.c3] 31))
  have HT0 := Lib.hid ((TermAt.boxed w t 47).below ((Below.refl _ _).alloc (Nat.le_refl _) (.cells #[.int .u64 s.trace, .int .u64 s.id, .int .u64 s.parent, .string s.service, .string s.op, .int .i64 s.start, .int .i64 s.dur, .int .i64 s.status, .slice s.A1 s.n1 s.c1, .slice s.A2 s.n2 s.c2, .slice s.A3 s.n3 s.c3] 31)))
  go_wp2_with fail
  refine (number_any _ s _ HS.out).mono ?_
  rintro e w1 ⟨n, rfl, hn, hb⟩
  rw [HN.out]
  have HNI := Lib.hid hn
  have HB1 := Lib.hid (below_then HB0.out HB0.out.size hb)
  have HT1 := HT0.out.below hb
  have c0 := HT1.c0
  have c1 := HT1.c1
  have c4 := HT1.c4
  simp only [Nat.zero_add] at c0 c1 c4
  clear hn hb HT0 HT1 HB0
  go_wp2_with fail
  refine (rel_any _ _ _ _).mono ?_
  rintro e w' ⟨rfl, rfl⟩
  go_wp2
  go_ret
  refine TellsHold.mk_ rfl HB1.out (fun h => ⟨fun _ => ⟨n, IntKind.u64.wrap t.num, HNI.out, fun h0 h1 => by rw [IntKind.wrap_u64]; omega, h⟩, fun h' => by rw [HN.out] at h'; cases h'⟩)

def MatchP (ts : List Term) (s : Span) : Prop := ∀ t ∈ ts, HoldP t s
def TellsMatch (ts : List Term) (s : Span) (w : World) (e : Ending) (w' : World) : Prop := ∃ b : Bool, e = .returned (.bool b) ∧ (b = true → MatchP ts s) ∧ Below w.heap.size w w'
theorem TellsMatch.mk_ {ts : List Term} {s : Span} {w w' : World} {e : Ending} {b : Bool} (h : e = .returned (.bool b)) (hb : Below w.heap.size w w') (hs : b = true → MatchP ts s) : TellsMatch ts s w e w' := ⟨b, h, hs, hb⟩
/-- Holds may be asked of these terms, of this span. -/
def Asked (ts : List Term) (s : Span) (w : World) : Prop := ∀ t ∈ ts, ∀ w', Below w.heap.size w w' →
  Calls Try.prog 26 #[.agg #[.string t.field, .int .i64 t.rel, .int .i64 t.kind, .string t.text, .int .i64 t.num, .bool t.tru], .agg #[.int .u64 s.trace, .int .u64 s.id, .int .u64 s.parent, .string s.service, .string s.op, .int .i64 s.start, .int .i64 s.dur, .int .i64 s.status, .slice s.A1 s.n1 s.c1, .slice s.A2 s.n2 s.c2, .slice s.A3 s.n3 s.c3]] w' fun e w'' => TellsHold t s w' e w''

set_option maxHeartbeats 4000000 in
set_option maxRecDepth 100000 in
theorem match_any (A : Option Addr) (n c : Nat) (ts : List Term) (o : Int) (s : Span) (w : World) (h : TermsAt w A n ts) (ha : Asked ts s w) :
    Calls Try.prog 12 #[.agg #[.slice A n c, .int .i64 o], .agg #[.int .u64 s.trace, .int .u64 s.id, .int .u64 s.parent, .string s.service, .string s.op, .int .i64 s.start, .int .i64 s.dur, .int .i64 s.status, .slice s.A1 s.n1 s.c1, .slice s.A2 s.n2 s.c2, .slice s.A3 s.n3 s.c3]] w fun e w' => TellsMatch ts s w e w' := by
  have hm := h.max
  have hl := h.len
  subst hl
  have H := Lib.hid h
  have HA := Lib.hid ha
  clear h ha
  go_enter Try.func12, Try.ntmps12
  go_wp2
  go_loopw [5] (fun v5 wr => ∃ i : Nat, v5 = .int .i64 i ∧ i ≤ ts.length ∧ Aside0 (∀ j (hj : j < ts.length), j < i → HoldP ts[j] s) ∧ Aside0 (Below w.heap.size w wr) ∧ Aside0 (QBox wr w.heap.size A ts.length c o) ∧ Aside0 (SBox wr (w.heap.size + 1) s)) (fun v5 _ => ts.length - (intOf v5).toNat)
  case atStart =>
    refine ⟨0, rfl, by omega, ⟨fun j _ h => by omega⟩, ⟨((Below.refl w.heap.size w).alloc (Nat.le_refl _) _).alloc (by simp) _⟩, ⟨?_⟩, ⟨?_⟩⟩
    · unfold QBox
      rw [Below.heap_alloc _ _ _ (by simp), heap_alloc_new]
    · have h := heap_alloc_new (w.alloc (.cells #[.slice A ts.length c, .int .i64 o] 24)) (.cells #[.int .u64 s.trace, .int .u64 s.id, .int .u64 s.parent, .string s.service, .string s.op, .int .i64 s.start, .int .i64 s.dur, .int .i64 s.status, .slice s.A1 s.n1 s.c1, .slice s.A2 s.n2 s.c2, .slice s.A3 s.n3 s.c3] 31)
      simpa [SBox] using h
  case round =>
    obtain ⟨i, rfl, hi, HO, HB, HQ, HSB⟩ := hrel
    by_cases hlt : i < ts.length
    · obtain ⟨ad, ea, ht⟩ := H.out.at_ i hlt
      subst ea
      have hcall := HA.out ts[i] (List.getElem_mem hlt)
      have ht := ht.below HB.out
      have e0 := ht.c0
      have e1 := ht.c1
      have e2 := ht.c2
      have e3 := ht.c3
      have e4 := ht.c4
      have e5 := ht.c5
      have HC := Lib.hid hcall
      have hfin := Lib.hid (fun (h : HoldP ts[i] s) => (fun j (hj : j < ts.length) (h2 : j < i + 1) => by
        rcases Nat.lt_or_ge j i with h3 | h3
        · exact HO.out j hj h3
        · obtain rfl : j = i := by omega
          exact h : ∀ j (hj : j < ts.length), j < i + 1 → HoldP ts[j] s))
      generalize ts[i] = t at *
      obtain ⟨q0, q1⟩ := HQ.out.cells
      obtain ⟨s0, s1, s2, s3, s4, s5, s6, s7, s8, s9, s10⟩ := HSB.out.cells
      clear ht hcall
      have p1 := eq_true (show (0 : Int) ≤ (i : Int) by omega)
      have p2 := eq_true (show (i : Int) < (ts.length : Int) by omega)
      go_upto_region 4 with fail
      go_cut [20] (fun v20 wc => ∃ b : Bool, v20 = .bool (!b) ∧ Aside0 (b = true → HoldP t s) ∧ Aside0 (Below wr.heap.size wr wc))
      case first =>
        go_still_tail 6, (by kernel_rfl)
        change wpList _ _ _ _ _ wr.drew
        go_wp2_with fail
        refine (HC.out _ (below_drew HB.out)).mono ?_
        rintro e w1 ⟨b, rfl, hp, hb⟩
        have HP := Lib.hid hp
        have HB1 : Hid (Below wr.heap.size wr w1) := (below_drew (Below.refl wr.heap.size wr)).trans hb
        clear hp hb
        go_wp2
        go_meet
        exact ⟨b, rfl, ⟨HP.out⟩, ⟨HB1.out⟩⟩
      obtain ⟨b, rfl, HP, HBc⟩ := hcut
      have HB2 := Aside0.mk (below_then HB.out HB.out.size HBc.out)
      have HQ2 := Aside0.mk (HQ.out.below HBc.out)
      have HS2 := Aside0.mk (HSB.out.below HBc.out)
      clear q0 q1 s0 s1 s2 s3 s4 s5 s6 s7 s8 s9 s10 e0 e1 e2 e3 e4 e5 p1 p2 HB HQ HSB HBc
      cases b
      · go_wp2
        go_ret
        exact TellsMatch.mk_ rfl HB2.out (fun h => by cases h)
      · have HO2 := Aside0.mk (hfin.out (HP.out rfl))
        clear HO HP
        go_wp2
        go_roundw
        case rel => exact ⟨i + 1, by go_num, by omega, HO2, HB2, HQ2, HS2⟩
        case measure => simp [intOf]; omega
    · have HM : Aside0 (MatchP ts s) := ⟨fun t ht => by
        obtain ⟨j, hj, rfl⟩ := List.getElem_of_mem ht
        exact HO.out j hj (by omega)⟩
      obtain ⟨q0, q1⟩ := HQ.out.cells
      clear HO
      go_wp2
      go_ret
      exact TellsMatch.mk_ rfl HB.out (fun _ => HM.out)
end Go.Proofs.Ytmckgcooehdbaaa
