/- The walk of PlanBounds: it returns true for every query, term and span. -/
import Derived.Test.YtmckgcooehdbaaaE3
import Derived.Deep.RegionHeld3
set_option linter.unusedVariables false
set_option linter.unusedSimpArgs false
namespace Go.Proofs.Ytmckgcooehdbaaa
open Go.RowKit Go.Proofs.YtmckgcooehdbaaaW.PrintWords

set_option maxHeartbeats 4000000 in
set_option maxRecDepth 100000 in
theorem boundsLaw_any (A : Option Addr) (n c : Nat) (ts : List Term) (o : Int) (t : Term) (s : Span) (w : World) (h : TermsAt w A n ts) (hnum : NumsOk ts) (ht : -9223372036854775808 ≤ t.num ∧ t.num ≤ 9223372036854775807) (hs : SpanNums s) :
    Calls Try.prog 4 #[.agg #[.slice A n c, .int .i64 o], .agg #[.string t.field, .int .i64 t.rel, .int .i64 t.kind, .string t.text, .int .i64 t.num, .bool t.tru], .agg #[.int .u64 s.trace, .int .u64 s.id, .int .u64 s.parent, .string s.service, .string s.op, .int .i64 s.start, .int .i64 s.dur, .int .i64 s.status, .slice s.A1 s.n1 s.c1, .slice s.A2 s.n2 s.c2, .slice s.A3 s.n3 s.c3]] w fun e w' => Woken w e w' := by
  have hl := h.len
  subst hl
  have HT := Lib.hid h
  have HN := Lib.hid hnum
  have HTN := Lib.hid ht
  have HS := Lib.hid hs
  clear h hnum ht hs
  have HB0 := Lib.hid ((((Below.refl w.heap.size w).alloc (Nat.le_refl _) (.cells #[.slice A ts.length c, .int .i64 o] 24)).alloc (by simp) (.cells #[.string t.field, .int .i64 t.rel, .int .i64 t.kind, .string t.text, .int .i64 t.num, .bool t.tru] 47)).alloc (by simp; omega) (.cells #[.int .u64 s.trace, .int .u64 s.id, .int .u64 s.parent, .string s.service, .string s.op, .int .i64 s.start, .int .i64 s.dur, .int .i64 s.status, .slice s.A1 s.n1 s.c1, .slice s.A2 s.n2 s.c2, .slice s.A3 s.n3 s.c3] 31))
  have HX0 := Lib.hid (LBoxes.new w A ts.length c o t s)
  go_enter Try.func4, Try.ntmps4
  go_wp2_with fail
  refine (awake_any _).mono ?_
  rintro e w1 ⟨rfl, hb⟩
  have HB1 := Lib.hid (below_then HB0.out HB0.out.size hb)
  have HX1 := Lib.hid (HX0.out.below hb)
  clear hb HB0 HX0
  obtain ⟨q0, q1⟩ := HX1.out.q.cells
  go_upto_region 3 with fail
  go_cut [47] (fun v47 wc => ∃ b : Bool, v47 = .bool b ∧ Aside0 (b = false → Let_ ts o t s) ∧ Aside0 (Below w1.heap.size w1 wc))
  case first =>
    go_wp2_with fail
    refine (smallQ_any A ts.length c ts o _ (HT.out.below HB1.out)).mono ?_
    rintro e w2 ⟨b, rfl, hb⟩
    have HB2 := Lib.hid hb
    clear hb q0 q1
    cases b
    · go_wp2
      go_meet
      exact ⟨true, rfl, ⟨fun h => by cases h⟩, ⟨HB2.out⟩⟩
    · obtain ⟨q0, q1⟩ := (HX1.out.below HB2.out).q.cells
      go_wp2_with fail
      refine (may_any A ts.length c ts o _ (HT.out.below (below_then HB1.out HB1.out.size HB2.out))).mono ?_
      rintro e w3 ⟨b, rfl, hm, hb⟩
      have HM := Lib.hid hm
      have HB3 := Lib.hid (below_then HB2.out HB2.out.size hb)
      clear hm hb q0 q1
      cases b
      · go_wp2
        go_meet
        exact ⟨true, rfl, ⟨fun h => by cases h⟩, ⟨HB3.out⟩⟩
      · obtain ⟨t0, t1, t2, t3, t4, t5⟩ := (HX1.out.below HB3.out).t.cells
        go_wp2_with fail
        refine (one_any _ _ _ _ _ _ _).mono ?_
        rintro e w4 ⟨b, rfl, ho, hb⟩
        have HO := Lib.hid ho
        have HB4 := Lib.hid (below_then HB3.out HB3.out.size hb)
        clear ho hb t0 t1 t2 t3 t4 t5
        cases b
        · go_wp2
          go_meet
          exact ⟨true, rfl, ⟨fun h => by cases h⟩, ⟨HB4.out⟩⟩
        · obtain ⟨q0, q1⟩ := (HX1.out.below HB4.out).q.cells
          obtain ⟨s0, s1, s2, s3, s4, s5, s6, s7, s8, s9, s10⟩ := (HX1.out.below HB4.out).s.cells
          clear s0 s1 s2 s3 s4 s7 s8 s9 s10
          by_cases h7 : 7 < ts.length
          · go_wp2
            go_meet
            exact ⟨true, rfl, ⟨fun h => by cases h⟩, ⟨HB4.out⟩⟩
          · by_cases hd : s.dur < 0
            · go_wp2
              go_meet
              exact ⟨true, rfl, ⟨fun h => by cases h⟩, ⟨HB4.out⟩⟩
            · by_cases hst : s.start < 0
              · go_wp2
                go_meet
                exact ⟨true, rfl, ⟨fun h => by cases h⟩, ⟨HB4.out⟩⟩
              · have HL : Hid (Let_ ts o t s) := ⟨HM.out (by trivial), HO.out (by trivial), by omega, by omega, by omega⟩
                go_wp2
                go_meet
                exact ⟨false, by first | rfl | exact congrArg Value.bool (by simp; omega), ⟨fun _ => HL.out⟩, ⟨HB4.out⟩⟩
  obtain ⟨b, rfl, HL, HBc⟩ := hcut
  have HB2 := Lib.hid (below_then HB1.out HB1.out.size HBc.out)
  have HX2 := Lib.hid (HX1.out.below HBc.out)
  clear q0 q1 HB1 HX1 HBc
  cases b
  case true =>
    go_wp2
    go_ret
    exact ⟨rfl, HB2.out⟩
  have HLT := Lib.hid (HL.out rfl)
  clear HL
  go_wp2
  go_loopw [50] (fun v50 wr => ∃ i : Nat, v50 = .int .i64 i ∧ i ≤ 2 ∧ Aside0 (Below w.heap.size w wr) ∧ Aside0 (LBoxes wr w.heap.size A ts.length c o t s) ∧ Aside0 (FBox wr wc.heap.size)) (fun v50 _ => 2 - (intOf v50).toNat)
  case atStart =>
    have hb := (Below.refl wc.heap.size wc).alloc (Nat.le_refl _) (.cells #[.string ⟨#[115, 116, 97, 114, 116]⟩, .string ⟨#[100, 117, 114]⟩] 9)
    exact ⟨0, rfl, by omega, ⟨below_then HB2.out HB2.out.size hb⟩, ⟨HX2.out.below hb⟩, ⟨heap_alloc_new _ _⟩⟩
  case round =>
    obtain ⟨i, rfl, hi, HB, HX, HF⟩ := hrel
    clear HX2 HB2
    by_cases hlt : i < 2
    · have hFi : Hid (∃ f : ByteArray, (f.toList = startL ∨ f.toList = durL) ∧ wr.cell? ⟨wc.heap.size, i, none⟩ = some (.string f)) := by
        have hf := HF.out
        unfold FBox at hf
        rcases (show i = 0 ∨ i = 1 by omega) with rfl | rfl
        · exact ⟨⟨#[115, 116, 97, 114, 116]⟩, .inl (by simp [ByteArray.toList_eq, startL]), by simp [World.cell?, hf]⟩
        · exact ⟨⟨#[100, 117, 114]⟩, .inr (by simp [ByteArray.toList_eq, durL]), by simp [World.cell?, hf]⟩
      obtain ⟨f, hf, hfc⟩ := hFi.out
      have HFF := Lib.hid hf
      clear hf hFi
      obtain ⟨q0, q1⟩ := HX.out.q.cells
      go_wp2_with fail
      refine (bounds_any A ts.length c ts o f _ (HT.out.below HB.out)).mono ?_
      rintro e w2 ⟨rfl, hb⟩
      obtain ⟨lo, hlo⟩ : ∃ lo, lo = (boundsF f.toList ts).1 := ⟨_, rfl⟩
      obtain ⟨hi', hhi⟩ : ∃ hi', hi' = (boundsF f.toList ts).2 := ⟨_, rfl⟩
      rw [← hlo, ← hhi]
      have HLO := Lib.hid hlo
      have HHI := Lib.hid hhi
      have HB2 := Lib.hid (below_then HB.out HB.out.size hb)
      have HX2 := Lib.hid (HX.out.below hb)
      have HF2 := Lib.hid (HF.out.below hb)
      clear hlo hhi hb q0 q1 hfc HB HX HF
      obtain ⟨s0, s1, s2, s3, s4, s5, s6, s7, s8, s9, s10⟩ := HX2.out.s.cells
      clear s0 s1 s2 s3 s4 s7 s8 s9 s10
      go_upto_if 63 with fail
      generalize hbb : (f.toList == [100, 117, 114]) = bb
      have HBB := Lib.hid hbb
      clear hbb
      go_cut [11] (fun v11 wx => ∃ nn, v11 = .int .i64 nn ∧ Aside0 (NN f.toList s nn) ∧ w2 = wx)
      case first =>
        cases bb
        · have HN1 : Hid (NN f.toList s s.start) := ⟨fun _ => rfl, fun h => by have := HBB.out; rw [h] at this; simp [durL] at this⟩
          go_wp2
          go_meet
          exact ⟨_, rfl, ⟨HN1.out⟩, rfl⟩
        · have HN1 : Hid (NN f.toList s s.dur) := ⟨fun h => by have := HBB.out; rw [h] at this; simp [startL] at this, fun _ => rfl⟩
          go_wp2
          go_meet
          exact ⟨_, rfl, ⟨HN1.out⟩, rfl⟩
      obtain ⟨nn, rfl, HNN, rfl⟩ := hcut
      clear s5 s6 HBB
      go_upto_region 12 with fail
      go_cut [12] (fun v12 wx => ∃ g, v12 = .pointer (some ⟨g, 0, none⟩) ∧ Aside0 (OneAt wx w2.heap.size g []) ∧ Aside0 (Below w2.heap.size w2 wx) ∧ Aside0 (w2.heap.size ≤ g))
      case first =>
        go_wp2
        go_meet
        exact ⟨w2.heap.size, rfl, ⟨⟨⟨.slice none 0 0, heap_alloc_new _ _, own_nil _ _ _ _, by simp [Value.ownBlock]⟩⟩⟩, ⟨(Below.refl _ _).alloc (Nat.le_refl _) _⟩, ⟨Nat.le_refl _⟩⟩
      obtain ⟨g, rfl, HO0, HBo, HGE⟩ := hcut
      go_wp2
      go_loopw [13] (fun v13 wq => ∃ j : Nat, v13 = .int .i64 j ∧ j ≤ ts.length ∧ Aside0 (OneAt wq w2.heap.size g (ofField f.toList (ts.take j))) ∧ Aside0 (Below w2.heap.size w2 wq)) (fun v13 _ => ts.length - (intOf v13).toNat)
      case atStart => exact ⟨0, rfl, by omega, ⟨HO0.out⟩, ⟨HBo.out⟩⟩
      case round =>
        obtain ⟨j, rfl, hj, HOq, HBq⟩ := hrel
        have HXq := HX2.out.below HBq.out
        obtain ⟨q0, q1⟩ := HXq.q.cells
        clear HXq q1
        by_cases hjl : j < ts.length
        · obtain ⟨ad, ea, ht⟩ := HT.out.at_ j hjl
          subst ea
          have ht := ht.below (below_then HB2.out HB2.out.size HBq.out)
          have hsn : Hid (ofField f.toList (ts.take (j + 1)) = if (ts[j].field.toList == f.toList) = true then ofField f.toList (ts.take j) ++ [ts[j]] else ofField f.toList (ts.take j)) := by
            unfold Hid ofField
            rw [List.take_succ_eq_append_getElem hjl, List.filter_append]
            simp only [List.filter_cons, List.filter_nil]
            split <;> simp
          have hlen : Hid ((ofField f.toList (ts.take j)).length ≤ 8) := by
            have h1 := List.length_filter_le (fun t : Term => t.field.toList == f.toList) (ts.take j)
            have h2 := HLT.out.2.2.1
            have h3 : (ts.take j).length ≤ ts.length := by simp; omega
            unfold Hid ofField
            omega
          generalize ts[j] = u at ht hsn
          have e0 := ht.c0
          have e1 := ht.c1
          have e2 := ht.c2
          have e3 := ht.c3
          have e4 := ht.c4
          have e5 := ht.c5
          clear ht
          have p1 := eq_true (show (0 : Int) ≤ (j : Int) by omega)
          have p2 := eq_true (show (j : Int) < (ts.length : Int) by omega)
          have h7 := HLT.out.2.2.1
          generalize hbu : (u.field.toList == f.toList) = bu at hsn
          cases bu
          · have hs2 : Hid (ofField f.toList (ts.take (j + 1)) = ofField f.toList (ts.take j)) := by rw [hsn.out]; rfl
            clear hsn
            go_wp2
            go_roundw
            case rel => exact ⟨j + 1, by go_num, by omega, ⟨by rw [hs2.out]; exact HOq.out⟩, HBq⟩
            case measure => simp [intOf]; omega
          · have hs2 : Hid (ofField f.toList (ts.take (j + 1)) = ofField f.toList (ts.take j) ++ [u]) := by rw [hsn.out]; rfl
            clear hsn
            generalize ofField f.toList (ts.take j) = us at *
            go_upto_region 17 with fail
            obtain ⟨v, hblk, hown, hne⟩ := HOq.out.row
            have v0 : wr.cell? ⟨g, 0, none⟩ = some v := by simp [World.cell?, hblk]
            have v1 : wr.frozen? ⟨g, 0, none⟩ = false := by simp [World.frozen?, hblk]
            obtain ⟨i0, hi0, hz0, hz1, hz2⟩ := info_parts info_term
            have v4 : (wr.alloc (.cells #[.string u.field, .int .i64 u.rel, .int .i64 u.kind, .string u.text, .int .i64 u.num, .bool u.tru] 47)).cell? ⟨g, 0, none⟩ = some v := by simp [World.cell?, Below.heap_alloc _ _ g (Array.getElem?_eq_some_iff.1 hblk).1, hblk]
            have HBlk := Lib.hid hblk
            have HOwn := Lib.hid hown
            have HNE := Lib.hid hne
            have HI0 := Lib.hid hi0
            clear hblk hown hne hi0
            go_region_law (refine step_append_lies _ rfl (.tmp 83) (.tmp 89) 22 rfl w2.heap.size 47 i0 _ 6 64 Try.underlying22 HI0.out hz0 hz1 hz2 rfl (by decide) v us.length (us.flatMap Term.cells) (by simp [Act.eval, Act.put]) (HOwn.out.alloc _).drew ⟨wr.heap.size, 0, none⟩ 1 1 (Term.cells u) (by simp [Act.eval, Act.put]) rfl (World.news_of_block (heap_alloc_new _ _)) (by simp [Term.cells, Value.oneCell']) (by decide) (by have := hlen.out; unfold maxLen; omega) (by have := hlen.out; omega) (by have := HBq.out.size; simp; omega) _ rfl ?_; intro g3 cap3 w3 hown3 hgr3 hor3 hlt3; have HP := Lib.hid (OneAt.append HBlk.out HOwn.out HNE.out HGE.out hgr3 hown3 hor3); have v2 := HP.out.1; have v3 := HP.out.2.1)
            all_goals
              have HO3 := Lib.hid HP.out.2.2.1
              have HB3 := Lib.hid (HP.out.2.2.2 _ HBq.out)
              clear v0 v1 v2 v3 v4 HP HOwn HBlk hown3 hgr3 hor3 q0 e0 e1 e2 e3 e4 e5
              go_wp2
              go_roundw
              case rel => exact ⟨j + 1, by go_num, by omega, ⟨by rw [hs2.out]; exact HO3.out⟩, ⟨HB3.out⟩⟩
              case measure => simp [intOf]; omega
        · obtain rfl : j = ts.length := by omega
          rw [List.take_length] at HOq
          have HQ1 := Lib.hid (HOq.out.query (by have := List.length_filter_le (fun t : Term => t.field.toList == f.toList) ts; have := HLT.out.2.2.1; unfold ofField; omega))
          have HXw := Lib.hid (HX2.out.below HBq.out)
          clear HOq
          have p2 := eq_false (show ¬ (ts.length : Int) < (ts.length : Int) by omega)
          go_upto_region 18 with fail
          clear q0 p2
          go_cut [104] (fun v104 wm => v104 = .bool false ∧ Aside0 (Below wr.heap.size wr wm))
          case first =>
            obtain ⟨A', c', hblk, htq⟩ := HQ1.out
            have z0 : wr.cell? ⟨g, 0, none⟩ = some (.slice A' (ofField f.toList ts).length c') := by simp [World.cell?, hblk]
            have z1 : wr.cell? ⟨g, 1, none⟩ = some (.int .i64 0) := by simp [World.cell?, hblk]
            obtain ⟨s0, s1, s2, s3, s4, s5, s6, s7, s8, s9, s10⟩ := HXw.out.s.cells
            have HTQ := Lib.hid htq
            clear hblk htq
            generalize hus : ofField f.toList ts = us at z0 HTQ
            have HUS := Lib.hid hus
            clear hus
            go_wp2_with fail
            refine (match_any A' us.length c' us 0 s _ HTQ.out (by rw [← HUS.out]; exact asked_num HFF.out ts s _ HS.out)).mono ?_
            rintro e w4 ⟨b, rfl, hm, hb⟩
            have HBm := Lib.hid hb
            have HM := Lib.hid hm
            clear hm hb s0 s1 s2 s3 s4 s5 s6 s7 s8 s9 s10 z0 z1
            cases b
            · go_wp2
              go_meet
              exact ⟨rfl, ⟨HBm.out⟩⟩
            · have hin := law_in HFF.out HLT.out HN.out HS.out HNN.out (by rw [HUS.out]; exact HM.out (by trivial))
              rw [← HLO.out, ← HHI.out] at hin
              have p3 := eq_false (show ¬ nn < lo by omega)
              have p4 := eq_false (show ¬ hi' < nn by omega)
              clear hin
              go_wp2
              go_meet
              exact ⟨rfl, ⟨HBm.out⟩⟩
          obtain ⟨rfl, HBm⟩ := hcut
          have HX4 := Lib.hid (HXw.out.below HBm.out)
          have HB4 := Lib.hid (below_then HBq.out HBq.out.size HBm.out)
          clear HXw HQ1 HNN HBq HBm
          go_upto_region 20 with fail
          go_cut [14] (fun v14 wn => ∃ g4, v14 = .pointer (some ⟨g4, 0, none⟩) ∧ Aside0 (QueryAt wn g4 (ts ++ [t])) ∧ Aside0 (Below wc.heap.size wc wn))
          case first =>
            have hq4 := HX4.out.q.cells.1
            have hql := (Array.getElem?_eq_some_iff.1 HX4.out.q).1
            refine region20 (base := wc.heap.size) (q := w.heap.size) (tb := w.heap.size + 1) (A := A) (c := c) (ts := ts) (t := t) (w0 := wc) (by kernel_rfl) ⟨rfl, by simp, rfl, rfl, hq4, hql, HX4.out.t, HT.out.below (below_then HB2.out HB2.out.size HB4.out), HLT.out.2.2.1⟩ ?_
            intro x0 x1 x2 x3 x4 x5 x6 x7 g4 w4 hqa hba
            simp only [Act.put, List.setIfInBounds_toArray, List.set_cons_zero, List.set_cons_succ]
            have HQA := Lib.hid hqa
            have HBA := Lib.hid hba
            clear hqa hba hq4 hql
            go_wp2
            go_meet
            exact ⟨g4, rfl, ⟨HQA.out⟩, ⟨HBA.out⟩⟩
          obtain ⟨g4, rfl, HQ4, HBn⟩ := hcut
          have HB5 := Lib.hid (below_then HB4.out HB4.out.size HBn.out)
          have HX5 := Lib.hid (HX2.out.below HB5.out)
          have HF5 := Lib.hid (HF2.out.below HB5.out)
          have HB6 := Lib.hid (below_then HB2.out HB2.out.size HB5.out)
          clear HX4 HB4 HX2 HF2 HB5 HB2 HBn HGE HO0 HBo
          obtain ⟨A4, c4, hblk4, htq4⟩ := HQ4.out
          have z0 : wc.cell? ⟨g4, 0, none⟩ = some (.slice A4 (ts ++ [t]).length c4) := by simp [World.cell?, hblk4]
          have z1 : wc.cell? ⟨g4, 1, none⟩ = some (.int .i64 0) := by simp [World.cell?, hblk4]
          have HTQ := Lib.hid htq4
          clear hblk4 htq4 HQ4
          obtain ⟨us, hus⟩ : ∃ us, us = ts ++ [t] := ⟨_, rfl⟩
          rw [← hus] at z0 HTQ
          have HUS := Lib.hid hus
          clear hus
          go_wp2_with fail
          refine (bounds_any A4 us.length c4 us 0 f _ HTQ.out).mono ?_
          rintro e w6 ⟨rfl, hb⟩
          have hnw := bounds_narrow f.toList ts t
          rw [← HUS.out, ← HLO.out, ← HHI.out] at hnw
          obtain ⟨lo2, hlo2⟩ : ∃ lo2, lo2 = (boundsF f.toList us).1 := ⟨_, rfl⟩
          obtain ⟨hi2, hhi2⟩ : ∃ hi2, hi2 = (boundsF f.toList us).2 := ⟨_, rfl⟩
          have hnf : t.field.toList ≠ f.toList → lo2 = lo ∧ hi2 = hi' := fun h => by
            have := hnw.2.2 h
            rw [hlo2, hhi2, this, HLO.out, HHI.out]
            exact ⟨rfl, rfl⟩
          rw [← hlo2, ← hhi2] at hnw ⊢
          have hnw1 := hnw.1
          have hnw2 := hnw.2.1
          have HNF := Lib.hid hnf
          have HB7 := Lib.hid (below_then HB6.out HB6.out.size hb)
          have HX7 := Lib.hid (HX5.out.below hb)
          have HF7 := Lib.hid (HF5.out.below hb)
          have p4 := eq_false (show ¬ lo2 < lo by omega)
          have p5 := eq_false (show ¬ hi' < hi2 by omega)
          obtain ⟨t0, t1, t2, t3, t4, t5⟩ := HX7.out.t.cells
          clear hnw hnw1 hnw2 hnf hlo2 hhi2 hb z0 z1 HB6 HX5 HF5 HLO HHI t1 t2 t3 t4 t5
          generalize hbf : (t.field.toList == f.toList) = bf
          cases bf
          · obtain ⟨e1, e2⟩ := HNF.out (by simpa using hbf)
            subst e1 e2
            have hbf2 : (t.field.toList != f.toList) = true := by rw [bne, hbf]; rfl
            clear HNF
            go_wp2
            go_roundw
            case rel => exact ⟨i + 1, by go_num, by omega, ⟨HB7.out⟩, ⟨HX7.out⟩, ⟨HF7.out⟩⟩
            case measure => simp [intOf]; omega
          · have hbf2 : (t.field.toList != f.toList) = false := by rw [bne, hbf]; rfl
            clear HNF
            go_wp2
            go_roundw
            case rel => exact ⟨i + 1, by go_num, by omega, ⟨HB7.out⟩, ⟨HX7.out⟩, ⟨HF7.out⟩⟩
            case measure => simp [intOf]; omega
    · go_wp2
      go_ret
      exact ⟨rfl, HB.out⟩
end Go.Proofs.Ytmckgcooehdbaaa
