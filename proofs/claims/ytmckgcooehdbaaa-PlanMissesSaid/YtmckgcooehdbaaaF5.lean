/- The contract of cambiumref16.Compare, for every two values whose texts have at most 100000 bytes. No condition beyond those that each theorem names. -/
import Derived.Test.YtmckgcooehdbaaaF3
set_option linter.unusedVariables false
set_option linter.unusedSimpArgs false
namespace Go.Proofs.Ytmckgcooehdbaaa
open Go.RowKit Go.Proofs.YtmckgcooehdbaaaW.PrintWords

theorem lessB_eq : ∀ (xs ys : List Int), lessB xs ys = false → lessB ys xs = false → xs = ys
  | [], [], _, _ => rfl
  | [], y :: ys, h, _ => by simp [lessB] at h
  | x :: xs, [], _, h => by simp [lessB] at h
  | x :: xs, y :: ys, h1, h2 => by
    simp only [lessB] at h1 h2
    by_cases e : x = y
    · subst e
      simp at h1 h2
      rw [lessB_eq xs ys h1 h2]
    · rw [if_neg e] at h1
      rw [if_neg (Ne.symm e)] at h2
      simp at h1 h2
      omega
theorem bytesOf_inj {s t : ByteArray} (h : bytesOf s = bytesOf t) : s = t := by
  have h1 : s.data.toList = t.data.toList := by
    unfold bytesOf at h
    exact (List.map_inj_right (fun a b hab => by
      have : a.toNat = b.toNat := by omega
      exact UInt8.toNat_inj.1 this)).1 h
  cases s; cases t
  simp only [ByteArray.mk.injEq]
  exact Array.toList_inj.1 h1

/-- What a comparison tells: of texts, that they are one if it is 0. -/
def TellsCmp (k1 : Int) (t1 : ByteArray) (k2 : Int) (t2 : ByteArray) (w : World) (e : Ending) (w' : World) : Prop :=
  ∃ (c : Int) (is : Bool), e = .returned (.tuple #[.int .i64 c, .bool is]) ∧ (is = true → k1 = k2 ∧ (k1 = 0 → c = 0 → t1 = t2)) ∧ Below w.heap.size w w'
theorem TellsCmp.mk_ {k1 k2 : Int} {t1 t2 : ByteArray} {w w' : World} {e : Ending} {c : Int} {is : Bool} (h : e = .returned (.tuple #[.int .i64 c, .bool is])) (hs : is = true → k1 = k2 ∧ (k1 = 0 → c = 0 → t1 = t2)) (hb : Below w.heap.size w w') : TellsCmp k1 t1 k2 t2 w e w' := ⟨c, is, h, hs, hb⟩

/-- The boxes of the two values. -/
def TwoV (W : World) (g : Nat) (k1 : Int) (t1 : ByteArray) (n1 : Int) (b1 : Bool) (k2 : Int) (t2 : ByteArray) (n2 : Int) (b2 : Bool) : Prop :=
  W.cell? ⟨g, 0, none⟩ = some (.int .i64 k1) ∧ W.cell? ⟨g, 1, none⟩ = some (.string t1) ∧ W.cell? ⟨g, 2, none⟩ = some (.int .i64 n1) ∧ W.cell? ⟨g, 3, none⟩ = some (.bool b1) ∧
  W.cell? ⟨g + 1, 0, none⟩ = some (.int .i64 k2) ∧ W.cell? ⟨g + 1, 1, none⟩ = some (.string t2) ∧ W.cell? ⟨g + 1, 2, none⟩ = some (.int .i64 n2) ∧ W.cell? ⟨g + 1, 3, none⟩ = some (.bool b2)
theorem TwoV.below {W W1 : World} {g : Nat} {k1 : Int} {t1 : ByteArray} {n1 : Int} {b1 : Bool} {k2 : Int} {t2 : ByteArray} {n2 : Int} {b2 : Bool} (h : TwoV W g k1 t1 n1 b1 k2 t2 n2 b2) (hb : Below W.heap.size W W1) : TwoV W1 g k1 t1 n1 b1 k2 t2 n2 b2 :=
  ⟨pw_cell_below hb h.1, pw_cell_below hb h.2.1, pw_cell_below hb h.2.2.1, pw_cell_below hb h.2.2.2.1, pw_cell_below hb h.2.2.2.2.1, pw_cell_below hb h.2.2.2.2.2.1, pw_cell_below hb h.2.2.2.2.2.2.1, pw_cell_below hb h.2.2.2.2.2.2.2⟩
theorem two_boxes (w : World) (k1 : Int) (t1 : ByteArray) (n1 : Int) (b1 : Bool) (k2 : Int) (t2 : ByteArray) (n2 : Int) (b2 : Bool) :
    TwoV ((w.alloc (.cells #[.int .i64 k1, .string t1, .int .i64 n1, .bool b1] 45)).alloc (.cells #[.int .i64 k2, .string t2, .int .i64 n2, .bool b2] 45)) w.heap.size k1 t1 n1 b1 k2 t2 n2 b2 := by
  have hA := heap_alloc_new w (.cells #[.int .i64 k1, .string t1, .int .i64 n1, .bool b1] 45)
  have hA2 : ((w.alloc (.cells #[.int .i64 k1, .string t1, .int .i64 n1, .bool b1] 45)).alloc (.cells #[.int .i64 k2, .string t2, .int .i64 n2, .bool b2] 45)).heap[w.heap.size]? = _ := (Below.heap_alloc _ _ _ (by simp)).trans hA
  have hB := heap_alloc_new (w.alloc (.cells #[.int .i64 k1, .string t1, .int .i64 n1, .bool b1] 45)) (.cells #[.int .i64 k2, .string t2, .int .i64 n2, .bool b2] 45)
  have hs : (w.alloc (.cells #[.int .i64 k1, .string t1, .int .i64 n1, .bool b1] 45)).heap.size = w.heap.size + 1 := by simp
  rw [hs] at hB
  unfold TwoV
  refine ⟨?_, ?_, ?_, ?_, ?_, ?_, ?_, ?_⟩
  all_goals
    unfold World.cell?
    first
      | (rw [hA2]; rfl)
      | (rw [hB]; rfl)
/-- Two texts' bytes, one behind the other, and Less of them. -/
theorem less_texts {s t : ByteArray} (W : World) (hs : s.size ≤ 100000) (ht : t.size ≤ 100000) :
    Calls Try.prog 13 #[.slice (some ⟨W.heap.size, 0, none⟩) s.size (grownCap W s.size 0 5), .slice (some ⟨(Lib.bytesWorld W 5 s).heap.size, 0, none⟩) t.size (grownCap (Lib.bytesWorld W 5 s) t.size 0 5)] (Lib.bytesWorld (Lib.bytesWorld W 5 s) 5 t)
      fun e w' => e = .returned (.bool (lessB (bytesOf s) (bytesOf t))) ∧ Below W.heap.size W w' := by
  have r1 := (bytes_reads W 5 s (by omega)).below (bytesWorld_below (Lib.bytesWorld W 5 s) t)
  have r2 := bytes_reads (Lib.bytesWorld W 5 s) 5 t (by omega)
  refine (less_any _ _ _ _ _ _ _ _ _ r1 r2).mono fun e w' ⟨he, hd⟩ => ⟨he, ?_⟩
  have b1 := bytesWorld_below W s
  have b2 := below_then b1 b1.size (bytesWorld_below _ t)
  exact below_then b2 b2.size hd.below

set_option maxHeartbeats 1000000 in
set_option maxRecDepth 100000 in
theorem compare_any (k1 : Int) (t1 : ByteArray) (n1 : Int) (b1 : Bool) (k2 : Int) (t2 : ByteArray) (n2 : Int) (b2 : Bool) (w : World) (h1 : t1.size ≤ 100000) (h2 : t2.size ≤ 100000) :
    Calls Try.prog 44 #[.agg #[.int .i64 k1, .string t1, .int .i64 n1, .bool b1], .agg #[.int .i64 k2, .string t2, .int .i64 n2, .bool b2]] w fun e w' => TellsCmp k1 t1 k2 t2 w e w' := by
  have HB := Lib.hid (((Below.refl w.heap.size w).alloc (Nat.le_refl _) (.cells #[.int .i64 k1, .string t1, .int .i64 n1, .bool b1] 45)).alloc (by simp) (.cells #[.int .i64 k2, .string t2, .int .i64 n2, .bool b2] 45))
  have HC := Lib.hid (two_boxes w k1 t1 n1 b1 k2 t2 n2 b2)
  have hsz : ((w.alloc (.cells #[.int .i64 k1, .string t1, .int .i64 n1, .bool b1] 45)).alloc (.cells #[.int .i64 k2, .string t2, .int .i64 n2, .bool b2] 45)).heap.size = w.heap.size + 1 + 1 := by simp
  have HSz := Lib.hid hsz
  clear hsz
  go_enter Try.func44, Try.ntmps44
  go_upto_region 1 with fail
  generalize (w.alloc (.cells #[.int .i64 k1, .string t1, .int .i64 n1, .bool b1] 45)).alloc (.cells #[.int .i64 k2, .string t2, .int .i64 n2, .bool b2] 45) = W at *
  obtain ⟨c0, c1, c2, c3, e0, e1, e2, e3⟩ := HC.out
  by_cases hk : k1 = k2
  · subst hk
    by_cases hlo : k1 < 0 ∨ 2 < k1
    · go_wp2
      all_goals (go_ret2; exact TellsCmp.mk_ rfl (fun h => by cases h) HB.out)
    · have hl0 : 0 ≤ k1 := by omega
      have hl2 : k1 ≤ 2 := by omega
      clear hlo
      go_upto_region 3 with fail
      go_cut [0, 1, 6] (fun _ _ v6 wc => ∃ l : Bool, v6 = .bool l ∧ Aside0 (k1 = 0 → l = lessB (bytesOf t1) (bytesOf t2)) ∧ Aside0 (Below W.heap.size W wc))
      case first =>
        by_cases h0 : k1 = 0
        · subst h0
          have hcv := fun (w : World) (s : ByteArray) => Lib.run_convert_string_bytes (P := Try.prog) w 9 36 5 s Try.underlying9 Try.underlying36 Try.underlying5
          have e1' : (Lib.bytesWorld W 5 t1).cell? ⟨w.heap.size + 1, 1, none⟩ = some (.string t2) := pw_cell_below (bytesWorld_below W t1) e1
          go_wp2_with fail
          refine (less_texts W h1 h2).mono ?_
          rintro e w1 ⟨rfl, hb⟩
          have HB1 := Lib.hid hb
          obtain ⟨c0', c1', c2', c3', e0', e1'', e2', e3'⟩ := HC.out.below hb
          generalize hl : lessB (bytesOf t1) (bytesOf t2) = l
          have HL := Lib.hid hl
          clear hb hl hcv e1' c0 c1 c2 c3 e0 e1 e2 e3
          cases l
          all_goals
            go_wp2
            go_meet
            exact ⟨_, rfl, ⟨fun _ => HL.out.symm⟩, ⟨HB1.out⟩⟩
        · have hz : (k1 == 0) = false := by simp [h0]
          have HZ := Lib.hid h0
          clear h0
          generalize hq1 : (k1 == 1) = q1
          generalize hq2 : (k1 == 2) = q2
          cases q1
          all_goals cases q2
          all_goals
            go_wp2
            all_goals
              go_meet
              exact ⟨_, rfl, ⟨fun h => absurd h HZ.out⟩, ⟨Below.refl _ _⟩⟩
      obtain ⟨l, rfl, HL, HB1⟩ := hcut
      have HC1 := Lib.hid (HC.out.below HB1.out)
      obtain ⟨r0, r1, r2, r3, s0, s1, s2, s3⟩ := HC1.out
      have HB2 := Lib.hid (below_then HB.out HB.out.size HB1.out)
      clear c0 c1 c2 c3 e0 e1 e2 e3 HB HB1
      go_upto_region 4 with fail
      go_cut [0, 1, 7] (fun _ _ v7 wd => ∃ l : Bool, v7 = .bool l ∧ Aside0 (k1 = 0 → l = lessB (bytesOf t2) (bytesOf t1)) ∧ Aside0 (Below wc.heap.size wc wd))
      case first =>
        by_cases h0 : k1 = 0
        · subst h0
          have hcv := fun (w : World) (s : ByteArray) => Lib.run_convert_string_bytes (P := Try.prog) w 9 36 5 s Try.underlying9 Try.underlying36 Try.underlying5
          have r1x : (Lib.bytesWorld wc 5 t2).cell? ⟨w.heap.size, 1, none⟩ = some (.string t1) := pw_cell_below (bytesWorld_below wc t2) r1
          go_wp2_with fail
          refine (less_texts wc h2 h1).mono ?_
          rintro e w1 ⟨rfl, hb⟩
          have HB3 := Lib.hid hb
          obtain ⟨x0, x1, x2, x3, y0, y1, y2, y3⟩ := HC1.out.below hb
          generalize hl : lessB (bytesOf t2) (bytesOf t1) = m
          have HL2 := Lib.hid hl
          clear hb hl hcv r1x r0 r1 r2 r3 s0 s1 s2 s3
          cases m
          all_goals
            go_wp2
            go_meet
            exact ⟨_, rfl, ⟨fun _ => HL2.out.symm⟩, ⟨HB3.out⟩⟩
        · have hz : (k1 == 0) = false := by simp [h0]
          have HZ := Lib.hid h0
          clear h0
          generalize hq1 : (k1 == 1) = q1
          generalize hq2 : (k1 == 2) = q2
          cases q1
          all_goals cases q2
          all_goals
            go_wp2
            all_goals
              go_meet
              exact ⟨_, rfl, ⟨fun h => absurd h HZ.out⟩, ⟨Below.refl _ _⟩⟩
      obtain ⟨m, rfl, HL2, HB3⟩ := hcut
      have HB4 := Lib.hid (below_then HB2.out HB2.out.size HB3.out)
      clear r0 r1 r2 r3 s0 s1 s2 s3
      cases l
      · cases m
        · go_wp2
          go_ret2
          exact TellsCmp.mk_ rfl (fun _ => ⟨rfl, fun h0 _ => bytesOf_inj (lessB_eq _ _ (HL.out h0).symm (HL2.out h0).symm)⟩) HB4.out
        · go_wp2
          go_ret2
          exact TellsCmp.mk_ rfl (fun _ => ⟨rfl, fun _ h => by cases h⟩) HB4.out
      · go_wp2
        go_ret2
        exact TellsCmp.mk_ rfl (fun _ => ⟨rfl, fun _ h => by cases h⟩) HB4.out
  · have hkb : (k1 != k2) = true := by simp [hk]
    have hkb2 : (k1 == k2) = false := by simp [hk]
    go_wp2
    all_goals (go_ret2; exact TellsCmp.mk_ rfl (fun h => by cases h) HB.out)
end Go.Proofs.Ytmckgcooehdbaaa
