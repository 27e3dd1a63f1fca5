/- The contract of cambiumref22.Holds, for every term and every span whose texts have at most 100000 bytes. No condition beyond those that each theorem names. -/
import Derived.Test.YtmckgcooehdbaaaF5
set_option linter.unusedVariables false
set_option linter.unusedSimpArgs false
namespace Go.Proofs.Ytmckgcooehdbaaa
open Go.RowKit Go.Proofs.YtmckgcooehdbaaaW.PrintWords

/-- A value in a block. -/
def VBox (w : World) (g : Nat) (k : Int) (tx : ByteArray) (nm : Int) (tr : Bool) : Prop := w.heap[g]? = some (.cells #[.int .i64 k, .string tx, .int .i64 nm, .bool tr] 45 (0, 0))
theorem VBox.below {w w1 : World} {g : Nat} {k : Int} {tx : ByteArray} {nm : Int} {tr : Bool} (h : VBox w g k tx nm tr) (hb : Below w.heap.size w w1) : VBox w1 g k tx nm tr := (hb.block g (Array.getElem?_eq_some_iff.1 h).1).trans h
theorem VBox.cells {w : World} {g : Nat} {k : Int} {tx : ByteArray} {nm : Int} {tr : Bool} (h : VBox w g k tx nm tr) : (w.cell? ⟨g, 0, none⟩ = some (.int .i64 k) ∧ w.cell? ⟨g, 1, none⟩ = some (.string tx) ∧ w.cell? ⟨g, 2, none⟩ = some (.int .i64 nm) ∧ w.cell? ⟨g, 3, none⟩ = some (.bool tr)) ∧
    w.frozen? ⟨g, 0, none⟩ = false ∧ w.frozen? ⟨g, 1, none⟩ = false ∧ w.frozen? ⟨g, 2, none⟩ = false ∧ w.frozen? ⟨g, 3, none⟩ = false := by
  unfold VBox at h
  simp [World.cell?, World.frozen?, h]
theorem VBox.store {w : World} {g : Nat} {k : Int} {tx : ByteArray} {nm : Int} {tr : Bool} (h : VBox w g k tx nm tr) (k' : Int) (tx' : ByteArray) (nm' : Int) (tr' : Bool) :
    VBox ((((w.setCell ⟨g, 0, none⟩ (.int .i64 k')).setCell ⟨g, 1, none⟩ (.string tx')).setCell ⟨g, 2, none⟩ (.int .i64 nm')).setCell ⟨g, 3, none⟩ (.bool tr')) g k' tx' nm' tr' := by
  unfold VBox at h ⊢
  obtain ⟨hl, e⟩ := Array.getElem?_eq_some_iff.1 h
  simp [World.setCell, hl, Array.getElem_modify, e]
/-- What stands in Holds' own value: of a text's field, the span's text. -/
def TextIs (f : List UInt8) (s : Span) (k : Int) (tx : ByteArray) : Prop := (f = svcL → k = 0 ∧ tx = s.service) ∧ (f = opL → k = 0 ∧ tx = s.op) ∧ tx.size ≤ 100000
/-- What is asked of a span's texts. -/
structure Texts (s : Span) (ats : List Attr) : Prop where
  service : s.service.size ≤ 100000
  op : s.op.size ≤ 100000
  attrs : ∀ a ∈ ats, a.name.size ≤ 100000 ∧ a.text.size ≤ 100000

theorem at_list (b : ByteArray) : ((⟨#[64]⟩ : ByteArray) ++ b).toList = 64 :: b.toList := by
  simp [ByteArray.toList_eq, ByteArray.data_append]
theorem below_drewN {B : Nat} {a w : World} (h : Below B a w) (n : Nat) : Below B a (w.drewN n) := ⟨h.os, h.tape, h.output, h.size, h.block⟩

set_option maxHeartbeats 4000000 in
set_option maxRecDepth 100000 in
theorem holds_text (t : Term) (s : Span) (ats : List Attr) (w : World) (hs : SpanNums s) (hn : isNum t.field.toList = false) (ha : RowAt AttrAt 5 w s.A1 s.n1 ats) (hx : Texts s ats) (ht : t.text.size ≤ 100000) :
    Calls Try.prog 26 #[.agg #[.string t.field, .int .i64 t.rel, .int .i64 t.kind, .string t.text, .int .i64 t.num, .bool t.tru], .agg #[.int .u64 s.trace, .int .u64 s.id, .int .u64 s.parent, .string s.service, .string s.op, .int .i64 s.start, .int .i64 s.dur, .int .i64 s.status, .slice s.A1 s.n1 s.c1, .slice s.A2 s.n2 s.c2, .slice s.A3 s.n3 s.c3]] w fun e w' => TellsHold t s w e w' := by
  have hmax := ha.max
  have hlen := Lib.hid ha.len
  have HS := Lib.hid hs
  have HN := Lib.hid hn
  have HA := Lib.hid ha
  have HX := Lib.hid hx
  have HTT := Lib.hid ht
  clear hs hn ha hx ht
  go_enter Try.func26, Try.ntmps26
  have HB0 := Lib.hid (((Below.refl w.heap.size w).alloc (Nat.le_refl _) (.cells #[.string t.field, .int .i64 t.rel, .int .i64 t.kind, .string t.text, .int .i64 t.num, .bool t.tru] 47)).alloc (by simp) (.cells #[.int .u64 s.trace, .int .u64 s.id, .int .u64 s.parent, .string s.service, .string s.op, .int .i64 s.start, .int .i64 s.dur, .int .i64 s.status, .slice s.A1 s.n1 s.c1, .slice s.A2 s.n2 s.c2, .slice s.A3 s.n3 s.c3] 31))
  have HT0 := Lib.hid ((TermAt.boxed w t 47).below ((Below.refl _ _).alloc (Nat.le_refl _) (.cells #[.int .u64 s.trace, .int .u64 s.id, .int .u64 s.parent, .string s.service, .string s.op, .int .i64 s.start, .int .i64 s.dur, .int .i64 s.status, .slice s.A1 s.n1 s.c1, .slice s.A2 s.n2 s.c2, .slice s.A3 s.n3 s.c3] 31)))
  have hsb0 : SBox ((w.alloc (.cells #[.string t.field, .int .i64 t.rel, .int .i64 t.kind, .string t.text, .int .i64 t.num, .bool t.tru] 47)).alloc (.cells #[.int .u64 s.trace, .int .u64 s.id, .int .u64 s.parent, .string s.service, .string s.op, .int .i64 s.start, .int .i64 s.dur, .int .i64 s.status, .slice s.A1 s.n1 s.c1, .slice s.A2 s.n2 s.c2, .slice s.A3 s.n3 s.c3] 31)) (w.heap.size + 1) s := by
    have h := heap_alloc_new (w.alloc (.cells #[.string t.field, .int .i64 t.rel, .int .i64 t.kind, .string t.text, .int .i64 t.num, .bool t.tru] 47)) (.cells #[.int .u64 s.trace, .int .u64 s.id, .int .u64 s.parent, .string s.service, .string s.op, .int .i64 s.start, .int .i64 s.dur, .int .i64 s.status, .slice s.A1 s.n1 s.c1, .slice s.A2 s.n2 s.c2, .slice s.A3 s.n3 s.c3] 31)
    simpa [SBox] using h
  have HSB0 := Lib.hid hsb0
  clear hsb0
  go_wp2_with fail
  refine (number_any _ s _ HS.out).mono ?_
  rintro e w1 ⟨n, rfl, hn, hb⟩
  rw [HN.out]
  have HB1 := Lib.hid (below_then HB0.out HB0.out.size hb)
  have HT1 := Lib.hid (HT0.out.below hb)
  have HSB1 := Lib.hid (HSB0.out.below hb)
  have hz := hb.size
  simp only [World.size_alloc] at hz
  have hz1 : w.heap.size < w1.heap.size := by omega
  have hz2 : w.heap.size + 1 < w1.heap.size := by omega
  clear hn hb HT0 HB0 HSB0 hz
  have f0 := HT1.out.c0
  obtain ⟨s0, s1, s2, s3, s4, s5, s6, s7, s8, s9, s10⟩ := HSB1.out.cells
  go_upto_if 42 with fail
  generalize hop : (t.field.toList == [111, 112]) = bop
  go_cut [9] (fun v9 wc => ∃ (tx : ByteArray) (b : Bool), v9 = .bool b ∧ Aside0 (VBox wc w1.heap.size 0 tx 0 false) ∧ Aside0 (TextIs t.field.toList s 0 tx) ∧ Aside0 (Below w1.heap.size w1 wc))
  case first =>
    cases bop
    · go_wp2
      go_meet
      refine ⟨s.service, _, rfl, ⟨heap_alloc_new _ _⟩, ⟨⟨fun _ => ⟨rfl, rfl⟩, fun h => ?_, HX.out.service⟩⟩, ⟨(Below.refl _ _).alloc (Nat.le_refl _) _⟩⟩
      rw [h] at hop
      exact absurd hop (by decide)
    · go_wp2
      go_meet
      refine ⟨s.op, _, rfl, ⟨heap_alloc_new _ _⟩, ⟨⟨fun h => ?_, fun _ => ⟨rfl, rfl⟩, HX.out.op⟩⟩, ⟨(Below.refl _ _).alloc (Nat.le_refl _) _⟩⟩
      rw [h] at hop
      exact absurd hop (by decide)
  obtain ⟨tx, b, rfl, HV, HTX, HBc⟩ := hcut
  have HB2 := Lib.hid (below_then HB1.out HB1.out.size HBc.out)
  have HAW := Lib.hid (HA.out.below fun _ _ h => h.below HB2.out)
  have HTc := Lib.hid (HT1.out.below HBc.out)
  have HSc := Lib.hid (HSB1.out.below HBc.out)
  clear f0 s0 s1 s2 s3 s4 s5 s6 s7 s8 s9 s10 hop
  go_wp2
  go_loopw [9, 10] (fun v9 v10 wr => ∃ (i : Nat) (b : Bool) (k : Int) (tx : ByteArray) (nm : Int) (tr : Bool), v9 = .bool b ∧ v10 = .int .i64 i ∧ i ≤ s.n1 ∧ Aside0 (VBox wr w1.heap.size k tx nm tr) ∧ Aside0 (TextIs t.field.toList s k tx) ∧ Aside0 (Below w1.heap.size w1 wr)) (fun _ v10 _ => s.n1 - (intOf v10).toNat)
  case atStart => exact ⟨0, b, 0, tx, 0, false, rfl, rfl, by omega, ⟨HV.out⟩, ⟨HTX.out⟩, ⟨HBc.out⟩⟩
  case round =>
    clear HV HTX HBc HAW HTc HSc
    obtain ⟨i, b, k, tx, nm, tr, rfl, rfl, hi, HV, HTX, HBr⟩ := hrel
    have HTr := Lib.hid (HT1.out.below HBr.out)
    obtain ⟨s0, s1, s2, s3, s4, s5, s6, s7, s8, s9, s10⟩ := (HSB1.out.below HBr.out).cells
    clear s0 s1 s2 s3 s4 s5 s6 s7 s9 s10
    by_cases hlt : i < s.n1
    · have HBw := Lib.hid (below_then HB1.out HB1.out.size HBr.out)
      obtain ⟨ad, ha1, hat⟩ := HA.out.at_ i (by rw [hlen.out]; exact hlt)
      have hat := hat.below HBw.out
      have hsz := HX.out.attrs _ (List.getElem_mem (by rw [hlen.out]; exact hlt) : ats[i]'(by rw [hlen.out]; exact hlt) ∈ ats)
      generalize ats[i]'(by rw [hlen.out]; exact hlt) = a at hat hsz
      rw [ha1] at s8
      have a0 := hat.c0
      have a1 := hat.c1
      have a2 := hat.c2
      have a3 := hat.c3
      have a4 := hat.c4
      have f0 := HTr.out.c0
      obtain ⟨⟨v0, v1, v2, v3⟩, w0, w1', w2, w3⟩ := HV.out.cells
      have hs1 := hsz.1
      have hs2 := hsz.2
      have HATX := Lib.hid hs2
      have p1 := eq_true (show (0 : Int) ≤ (i : Int) by omega)
      have p2 := eq_true (show (i : Int) < (s.n1 : Int) by omega)
      clear hat hsz
      go_upto_region 13 with fail
      go_quiet (fail)
      go_wp2
      · have hat : t.field.toList = 64 :: a.name.toList := (beq_iff_eq.1 (by assumption)).trans (at_list a.name)
        have HTY : Hid (TextIs t.field.toList s a.kind a.text) := by
          refine ⟨fun h => ?_, fun h => ?_, HATX.out⟩
          · rw [hat] at h; simp [svcL] at h
          · rw [hat] at h; simp [opL] at h
        have HV2 := Lib.hid (HV.out.store a.kind a.text a.num a.tru)
        have HBs := Lib.hid ((((HBr.out.setCell (p := ⟨w1.heap.size, 0, none⟩) (Nat.le_refl _) (.int .i64 a.kind)).setCell (p := ⟨w1.heap.size, 1, none⟩) (Nat.le_refl _) (.string a.text)).setCell (p := ⟨w1.heap.size, 2, none⟩) (Nat.le_refl _) (.int .i64 a.num)).setCell (p := ⟨w1.heap.size, 3, none⟩) (Nat.le_refl _) (.bool a.tru))
        clear hat
        go_roundw
        case rel => exact ⟨i + 1, true, a.kind, a.text, a.num, a.tru, rfl, by go_num, by omega, ⟨HV2.out⟩, ⟨HTY.out⟩, ⟨below_drewN HBs.out nq⟩⟩
        case measure => simp [intOf]; omega
      · go_roundw
        case rel => exact ⟨i + 1, b, k, tx, nm, tr, rfl, by go_num, by omega, ⟨HV.out⟩, HTX, ⟨below_drewN HBr.out nq⟩⟩
        case measure => simp [intOf]; omega
    · obtain rfl : i = s.n1 := by omega
      have HBw := Lib.hid (below_then HB1.out HB1.out.size HBr.out)
      have f0 := HTr.out.c0
      have f1 := HTr.out.c1
      have f2 := HTr.out.c2
      have f3 := HTr.out.c3
      have f4 := HTr.out.c4
      have f5 := HTr.out.c5
      obtain ⟨⟨v0, v1, v2, v3⟩, w0, w1', w2, w3⟩ := HV.out.cells
      clear w0 w1' w2 w3 f0
      cases b
      · go_wp2
        go_ret
        exact TellsHold.mk_ rfl HBw.out (fun h => by cases h)
      · generalize hr6 : (t.rel == 6) = r6
        have HR6 := Lib.hid hr6
        cases r6
        · go_wp2_with fail
          refine (compare_any _ _ _ _ _ _ _ _ _ HTX.out.2.2 HTT.out).mono ?_
          rintro e w7 ⟨c, is, rfl, hc, hb⟩
          have HC := Lib.hid hc
          have HB7 := Lib.hid (below_then HBw.out HBw.out.size hb)
          have g1 := (HTr.out.below hb).c1
          clear hc hb f1 f2 f3 f4 f5 v0 v1 v2 v3
          cases is
          · go_wp2
            go_ret
            exact TellsHold.mk_ rfl HB7.out (fun h => by cases h)
          · go_wp2_with fail
            refine (rel_any _ _ _ _).mono ?_
            rintro e w8 ⟨rfl, rfl⟩
            go_wp2
            go_ret
            have hfin : ∀ b : Bool, b = relF t.rel (decide (c < 0)) (decide (0 < c)) → b = true → HoldP t s := fun b hb h => by
              rw [hb] at h
              refine ⟨fun h' => (by rw [HN.out] at h'; cases h'), fun _ hr hk => ?_⟩
              have hk0 : k = 0 := (HC.out (by trivial)).1.trans hk
              have hc0 : c = 0 := by
                rw [hr] at h
                simp [relF] at h
                omega
              have e := (HC.out (by trivial)).2 hk0 hc0
              exact ⟨fun hf => e.symm.trans (HTX.out.1 hf).2, fun hf => e.symm.trans (HTX.out.2.1 hf).2⟩
            exact TellsHold.mk_ rfl HB7.out (hfin _ rfl)
        · generalize hk0 : (k == 0) = q
          have hno : ∀ b : Bool, b = true → HoldP t s := fun b _ => ⟨fun h' => (by rw [HN.out] at h'; cases h'), fun _ hr _ => by
            have h6 := HR6.out
            rw [hr] at h6
            exact absurd h6 (by decide)⟩
          have HNO := Lib.hid hno
          clear hno
          cases q
          · go_wp2
            go_ret
            exact TellsHold.mk_ rfl HBw.out (HNO.out _)
          · go_wp2_with fail
            refine (glob_any _ _ _ HTT.out HTX.out.2.2).mono ?_
            rintro e w7 ⟨b, rfl, hb⟩
            have HB7 := Lib.hid (below_then HBw.out HBw.out.size hb)
            clear hb f1 f2 f3 f4 f5 v0 v1 v2 v3
            go_wp2
            go_ret
            exact TellsHold.mk_ rfl HB7.out (HNO.out _)
end Go.Proofs.Ytmckgcooehdbaaa
