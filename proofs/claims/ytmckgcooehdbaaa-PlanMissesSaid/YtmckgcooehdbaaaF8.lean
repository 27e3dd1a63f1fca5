/- The contracts of May and Fits of a span: what a span has that fits. No condition beyond those that each theorem names. -/
import Derived.Test.YtmckgcooehdbaaaF7
set_option linter.unusedVariables false
set_option linter.unusedSimpArgs false
namespace Go.Proofs.Ytmckgcooehdbaaa
open Go.RowKit Go.Proofs.YtmckgcooehdbaaaW.PrintWords

/-- What a span that fits has. -/
structure FitP (s : Span) (ats : List Attr) : Prop where
  service : s.service.size ≤ 32
  op : s.op.size ≤ 32
  start : 0 ≤ s.start ∧ s.start ≤ 1152921504606846976
  dur : 0 ≤ s.dur ∧ s.dur ≤ 1152921504606846976
  attrs : ∀ a ∈ ats, a.name.size ≤ 32 ∧ a.text.size ≤ 200
def TellsFit (s : Span) (ats : List Attr) (w : World) (e : Ending) (w' : World) : Prop := ∃ b : Bool, e = .returned (.bool b) ∧ (b = true → FitP s ats) ∧ Below w.heap.size w w'
theorem TellsFit.mk_ {s : Span} {ats : List Attr} {w w' : World} {e : Ending} {b : Bool} (h : e = .returned (.bool b)) (hb : Below w.heap.size w w') (hs : b = true → FitP s ats) : TellsFit s ats w e w' := ⟨b, h, hs, hb⟩
def HeadP (s : Span) : Prop := s.service.size ≤ 32 ∧ s.op.size ≤ 32 ∧ (0 ≤ s.start ∧ s.start ≤ 1152921504606846976) ∧ (0 ≤ s.dur ∧ s.dur ≤ 1152921504606846976)

set_option maxHeartbeats 4000000 in
set_option maxRecDepth 100000 in
theorem may16_any (s : Span) {ats : List Attr} {es : List (Int × ByteArray)} {ls : List (Int × Int)} (w : World) (hr : SpanRows w s ats es ls) :
    Calls Try.prog 19 #[.agg #[.int .u64 s.trace, .int .u64 s.id, .int .u64 s.parent, .string s.service, .string s.op, .int .i64 s.start, .int .i64 s.dur, .int .i64 s.status, .slice s.A1 s.n1 s.c1, .slice s.A2 s.n2 s.c2, .slice s.A3 s.n3 s.c3]] w fun e w' => TellsFit s ats w e w' := by
  have HR := Lib.hid hr
  have hlen := Lib.hid hr.a.len
  have hlenE := Lib.hid hr.e.len
  have hlenL := Lib.hid hr.l.len
  have hm1 := hr.a.max
  have hm2 := hr.e.max
  have hm3 := hr.l.max
  clear hr
  go_enter Try.func19, Try.ntmps19
  have HB0 := Lib.hid ((Below.refl w.heap.size w).alloc (Nat.le_refl _) (.cells #[.int .u64 s.trace, .int .u64 s.id, .int .u64 s.parent, .string s.service, .string s.op, .int .i64 s.start, .int .i64 s.dur, .int .i64 s.status, .slice s.A1 s.n1 s.c1, .slice s.A2 s.n2 s.c2, .slice s.A3 s.n3 s.c3] 31))
  have hsb : SBox (w.alloc (.cells #[.int .u64 s.trace, .int .u64 s.id, .int .u64 s.parent, .string s.service, .string s.op, .int .i64 s.start, .int .i64 s.dur, .int .i64 s.status, .slice s.A1 s.n1 s.c1, .slice s.A2 s.n2 s.c2, .slice s.A3 s.n3 s.c3] 31)) w.heap.size s := heap_alloc_new _ _
  have HSB0 := Lib.hid hsb
  clear hsb
  go_upto_region 1 with fail
  generalize w.alloc (.cells #[.int .u64 s.trace, .int .u64 s.id, .int .u64 s.parent, .string s.service, .string s.op, .int .i64 s.start, .int .i64 s.dur, .int .i64 s.status, .slice s.A1 s.n1 s.c1, .slice s.A2 s.n2 s.c2, .slice s.A3 s.n3 s.c3] 31) = W at *
  go_cut [54] (fun v54 wc => ∃ b : Bool, v54 = .bool b ∧ Aside0 (b = false → HeadP s) ∧ Aside0 (Below W.heap.size W wc))
  case first =>
    obtain ⟨s0, s1, s2, s3, s4, s5, s6, s7, s8, s9, s10⟩ := HSB0.out.cells
    clear s8 s9 s10
    generalize hq0 : (s.trace == 0) = q0
    cases q0
    · generalize hq1 : (s.id == 0) = q1
      cases q1
      · generalize hq2 : (s.parent == s.id) = q2
        cases q2
        · go_wp2_with fail
          refine (name_any _ _).mono ?_
          rintro e w1 ⟨b1, rfl, hp1, hb1⟩
          have HP1 := Lib.hid hp1
          have HB1 := Lib.hid hb1
          obtain ⟨t0, t1, t2, t3, t4, t5, t6, t7, t8, t9, t10⟩ := (HSB0.out.below hb1).cells
          clear hp1 hb1 s0 s1 s2 s3 s4 s5 s6 s7 t0 t1 t2 t8 t9 t10
          cases b1
          · go_wp2
            go_meet
            exact ⟨true, rfl, ⟨fun h => by cases h⟩, ⟨HB1.out⟩⟩
          · go_wp2_with fail
            refine (name_any _ _).mono ?_
            rintro e w2 ⟨b2, rfl, hp2, hb2⟩
            have HP2 := Lib.hid hp2
            have HB2 := Lib.hid (below_then HB1.out HB1.out.size hb2)
            obtain ⟨u0, u1, u2, u3, u4, u5, u6, u7, u8, u9, u10⟩ := (HSB0.out.below HB2.out).cells
            clear hp2 hb2 t3 t4 t5 t6 t7 u0 u1 u2 u3 u4 u8 u9 u10 HB1
            cases b2
            · go_wp2
              go_meet
              exact ⟨true, rfl, ⟨fun h => by cases h⟩, ⟨HB2.out⟩⟩
            · go_wp2_with fail
              refine (time_any _ _).mono ?_
              rintro e w' ⟨rfl, rfl⟩
              generalize hd1 : decide (0 ≤ s.start ∧ s.start ≤ 1152921504606846976) = d1
              have HD1 := Lib.hid hd1
              clear hd1
              cases d1
              · go_wp2
                go_meet
                exact ⟨true, rfl, ⟨fun h => by cases h⟩, ⟨HB2.out⟩⟩
              · go_wp2_with fail
                refine (time_any _ _).mono ?_
                rintro e w' ⟨rfl, rfl⟩
                generalize hd2 : decide (0 ≤ s.dur ∧ s.dur ≤ 1152921504606846976) = d2
                have HD2 := Lib.hid hd2
                clear hd2
                cases d2
                · go_wp2
                  go_meet
                  exact ⟨true, rfl, ⟨fun h => by cases h⟩, ⟨HB2.out⟩⟩
                · have HH : Hid (HeadP s) := ⟨HP1.out (by trivial), HP2.out (by trivial), of_decide_eq_true HD1.out, of_decide_eq_true HD2.out⟩
                  generalize hq3 : decide (s.status < 0) = q3
                  generalize hq4 : decide (2 < s.status) = q4
                  go_wp2
                  all_goals
                    go_meet
                    exact ⟨_, rfl, ⟨fun _ => HH.out⟩, ⟨HB2.out⟩⟩
        · go_wp2
          go_meet
          exact ⟨true, rfl, ⟨fun h => by cases h⟩, ⟨Below.refl _ _⟩⟩
      · go_wp2
        go_meet
        exact ⟨true, rfl, ⟨fun h => by cases h⟩, ⟨Below.refl _ _⟩⟩
    · go_wp2
      go_meet
      exact ⟨true, rfl, ⟨fun h => by cases h⟩, ⟨Below.refl _ _⟩⟩
  obtain ⟨b, rfl, HH, HBc⟩ := hcut
  have HB1 := Lib.hid (below_then HB0.out HB0.out.size HBc.out)
  have HSB1 := Lib.hid (HSB0.out.below HBc.out)
  clear HSB0 HBc HB0
  cases b
  case true =>
    go_wp2
    go_ret
    exact TellsFit.mk_ rfl HB1.out (fun h => by cases h)
  have HHd := Lib.hid (HH.out rfl)
  clear HH
  obtain ⟨s0, s1, s2, s3, s4, s5, s6, s7, s8, s9, s10⟩ := HSB1.out.cells
  clear s0 s1 s2 s3 s4 s5 s6 s7
  by_cases h1 : 16 < s.n1
  · go_wp2
    go_ret
    exact TellsFit.mk_ rfl HB1.out (fun h => by cases h)
  by_cases h2 : 16 < s.n2
  · go_wp2
    go_ret
    exact TellsFit.mk_ rfl HB1.out (fun h => by cases h)
  by_cases h3 : 16 < s.n3
  · go_wp2
    go_ret
    exact TellsFit.mk_ rfl HB1.out (fun h => by cases h)
  go_wp2
  go_loopw [3] (fun v3 wr => ∃ i : Nat, v3 = .int .i64 i ∧ i ≤ s.n1 ∧ Aside0 (∀ j (hj : j < ats.length), j < i → ats[j].name.size ≤ 32 ∧ ats[j].text.size ≤ 200) ∧ Aside0 (Below w.heap.size w wr) ∧ Aside0 (SBox wr w.heap.size s)) (fun v3 _ => s.n1 - (intOf v3).toNat)
  case atStart => exact ⟨0, rfl, by omega, ⟨fun j hj h => by omega⟩, ⟨HB1.out⟩, ⟨HSB1.out⟩⟩
  case round =>
    clear s8 s9 s10 HB1 HSB1
    obtain ⟨i, rfl, hi, HO, HB, HSB⟩ := hrel
    obtain ⟨s0, s1, s2, s3, s4, s5, s6, s7, s8, s9, s10⟩ := HSB.out.cells
    clear s0 s1 s2 s3 s4 s5 s6 s7
    by_cases hlt : i < s.n1
    · have hil : i < ats.length := by rw [hlen.out]; exact hlt
      obtain ⟨ad, ha1, hat⟩ := HR.out.a.at_ i hil
      have hat := hat.below HB.out
      have hprv : 0 < i → AttrAt wr (ad.add ((i - 1) * 5)) (ats[i - 1]'(by omega)) ∧ (ats[i - 1]'(by omega)).name.size ≤ 32 := fun h0 => by
        obtain ⟨ad', ha', hp⟩ := HR.out.a.at_ (i - 1) (by omega)
        rw [ha1] at ha'
        cases ha'
        exact ⟨hp.below HB.out, (HO.out (i - 1) (by omega) (by omega)).1⟩
      have hfin : (ats[i].name.size ≤ 32 ∧ ats[i].text.size ≤ 200) → ∀ j (hj : j < ats.length), j < i + 1 → ats[j].name.size ≤ 32 ∧ ats[j].text.size ≤ 200 := fun h j hj h2 => by
        rcases Nat.lt_or_ge j i with h3 | h3
        · exact HO.out j hj h3
        · obtain rfl : j = i := by omega
          exact h
      have HAt := Lib.hid hat
      have HPrv := Lib.hid hprv
      have HFin := Lib.hid hfin
      have HA1 := Lib.hid ha1
      clear hat hprv hfin ha1
      go_upto_region 8 with fail
      refine region8 (s := s) (g := w.heap.size) (i := i) (n := s.n1) (c := s.c1) (ad := ad) (u := ats[i]) (p := ats[i - 1]'(by omega)) (q0 := decide (0 < i)) (by kernel_rfl) (by simp) ⟨rfl, rfl, HSB.out, by rw [HA1.out], hlt, by omega, HAt.out, HPrv.out, rfl, fun h => of_decide_eq_true h⟩ ?_
      intro y w5 b hb5 hy40 hbP
      simp only [fullOf, Act.put, List.setIfInBounds_toArray, List.set_cons_zero, List.set_cons_succ]
      rw [hy40]
      have HBy := Lib.hid (below_then HB.out HB.out.size hb5)
      have HSy := Lib.hid (HSB.out.below hb5)
      have HP := Lib.hid hbP
      clear hb5 hy40 hbP s8 s9 s10 HB HSB HAt HPrv HA1 HO
      cases b
      · go_wp2
        go_roundw
        case rel => exact ⟨i + 1, by go_num, by omega, ⟨HFin.out (HP.out rfl)⟩, ⟨HBy.out⟩, ⟨HSy.out⟩⟩
        case measure => simp [intOf]; omega
      · go_wp2
        go_ret
        exact TellsFit.mk_ rfl HBy.out (fun h => by cases h)
    · obtain rfl : i = s.n1 := by omega
      have HAll : Hid (∀ a ∈ ats, a.name.size ≤ 32 ∧ a.text.size ≤ 200) := fun a ha => by
        obtain ⟨j, hj, rfl⟩ := List.getElem_of_mem ha
        exact HO.out j hj (by have := hlen.out; omega)
      clear HO
      go_wp2
      go_loopw [4] (fun v4 wq => ∃ j : Nat, v4 = .int .i64 j ∧ j ≤ s.n2 ∧ Aside0 (Below w.heap.size w wq) ∧ Aside0 (SBox wq w.heap.size s)) (fun v4 _ => s.n2 - (intOf v4).toNat)
      case atStart => exact ⟨0, rfl, by omega, HB, HSB⟩
      case round =>
        clear s8 s9 s10 HB HSB
        obtain ⟨j, rfl, hj, HB, HSB⟩ := hrel
        obtain ⟨s0, s1, s2, s3, s4, s5, s6, s7, s8, s9, s10⟩ := HSB.out.cells
        clear s0 s1 s2 s3 s4 s5 s6 s7 s8
        by_cases hlt : j < s.n2
        · have hil : j < es.length := by rw [hlenE.out]; exact hlt
          obtain ⟨ad, ha1, hat⟩ := HR.out.e.at_ j hil
          have hat := hat.below HB.out
          rw [ha1] at s9
          clear ha1
          generalize es[j] = ev at hat
          have e0 := hat.c0
          have e1 := hat.c1
          have p1 := eq_true (show (0 : Int) ≤ (j : Int) by omega)
          have p2 := eq_true (show (j : Int) < (s.n2 : Int) by omega)
          clear hat
          go_wp2_with fail
          refine (time_any _ _).mono ?_
          rintro e w' ⟨rfl, rfl⟩
          generalize decide (0 ≤ ev.1 ∧ ev.1 ≤ 1152921504606846976) = d1
          cases d1
          · go_wp2
            go_ret
            exact TellsFit.mk_ rfl HB.out (fun h => by cases h)
          · go_wp2_with fail
            refine (name_any _ _).mono ?_
            rintro e w5 ⟨b5, rfl, _, hb5⟩
            have HB5 := Lib.hid (below_then HB.out HB.out.size hb5)
            have HS5 := Lib.hid (HSB.out.below hb5)
            clear hb5 e0 e1 s9 s10 p1 p2
            cases b5
            · go_wp2
              go_ret
              exact TellsFit.mk_ rfl HB5.out (fun h => by cases h)
            · go_wp2
              go_roundw
              case rel => first | exact ⟨j + 1, by go_num, by omega, ⟨HB5.out⟩, ⟨HS5.out⟩⟩ | ((repeat apply Exists.intro); exact ⟨⟨j + 1, by go_num, by omega, ⟨HB5.out⟩, ⟨HS5.out⟩⟩, rfl⟩)
              case measure => simp [intOf]; omega
        · obtain rfl : j = s.n2 := by omega
          go_wp2
          go_loopw [5] (fun v5 wl => ∃ l : Nat, v5 = .int .i64 l ∧ l ≤ s.n3 ∧ Aside0 (Below w.heap.size w wl) ∧ Aside0 (SBox wl w.heap.size s)) (fun v5 _ => s.n3 - (intOf v5).toNat)
          case atStart => exact ⟨0, rfl, by omega, HB, HSB⟩
          case round =>
            clear s9 s10 HB HSB
            obtain ⟨l, rfl, hl, HB, HSB⟩ := hrel
            obtain ⟨s0, s1, s2, s3, s4, s5, s6, s7, s8, s9, s10⟩ := HSB.out.cells
            clear s0 s1 s2 s3 s4 s5 s6 s7 s8 s9
            by_cases hlt : l < s.n3
            · have hil : l < ls.length := by rw [hlenL.out]; exact hlt
              obtain ⟨ad, ha1, hat⟩ := HR.out.l.at_ l hil
              have hat := hat.below HB.out
              rw [ha1] at s10
              clear ha1
              generalize ls[l] = lk at hat
              have e0 := hat.c0
              have e1 := hat.c1
              have p1 := eq_true (show (0 : Int) ≤ (l : Int) by omega)
              have p2 := eq_true (show (l : Int) < (s.n3 : Int) by omega)
              clear hat
              generalize hq1 : (lk.1 == 0) = q1
              generalize hq2 : (lk.2 == 0) = q2
              cases q1
              · cases q2
                · go_wp2
                  go_roundw
                  case rel => first | exact ⟨l + 1, by go_num, by omega, HB, HSB⟩ | ((repeat apply Exists.intro); exact ⟨⟨l + 1, by go_num, by omega, HB, HSB⟩, rfl⟩)
                  case measure => simp [intOf]; omega
                · go_wp2
                  go_ret
                  exact TellsFit.mk_ rfl HB.out (fun h => by cases h)
              · go_wp2
                go_ret
                exact TellsFit.mk_ rfl HB.out (fun h => by cases h)
            · go_wp2
              go_ret
              exact TellsFit.mk_ rfl HB.out (fun _ => ⟨HHd.out.1, HHd.out.2.1, HHd.out.2.2.1, HHd.out.2.2.2, HAll.out⟩)
end Go.Proofs.Ytmckgcooehdbaaa
