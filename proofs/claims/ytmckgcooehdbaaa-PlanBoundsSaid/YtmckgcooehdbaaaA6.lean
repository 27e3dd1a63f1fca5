/- The contract of One: what a term has that may be, for every term. No condition beyond those that each theorem names. -/
import Derived.Test.YtmckgcooehdbaaaA5
set_option linter.unusedVariables false
set_option linter.unusedSimpArgs false
namespace Go.Proofs.Ytmckgcooehdbaaa
open Go.RowKit Go.Proofs.YtmckgcooehdbaaaW.PrintWords

/-- A term of a query. -/
structure Term where
  field : ByteArray
  rel : Int
  kind : Int
  text : ByteArray
  num : Int
  tru : Bool
def Term.value (t : Term) : Value := .agg #[.string t.field, .int .i64 t.rel, .int .i64 t.kind, .string t.text, .int .i64 t.num, .bool t.tru]
def isText (s : List UInt8) : Bool := s == [115, 101, 114, 118, 105, 99, 101] || s == [111, 112]
def isNum (s : List UInt8) : Bool := s == [115, 116, 97, 116, 117, 115] || s == [100, 117, 114] || s == [115, 116, 97, 114, 116] || s == [116, 114, 97, 99, 101] || s == [105, 100] || s == [112, 97, 114, 101, 110, 116]
theorem text2_is (s : ByteArray) (w : World) : Calls Try.prog 29 #[.string s] w fun e w' => e = .returned (.bool (isText s.toList)) ∧ w = w' := text2_any s w
theorem numberT_is (s : ByteArray) (w : World) : Calls Try.prog 30 #[.string s] w fun e w' => e = .returned (.bool (isNum s.toList)) ∧ w = w' := numberT_any s w
/-- What a term that may be has. -/
def OneP (t : Term) : Prop :=
  (isText t.field.toList = true → t.kind = 0) ∧ (isText t.field.toList = false → isNum t.field.toList = true → t.kind = 1 ∧ 0 ≤ t.num) ∧ (0 ≤ t.rel ∧ t.rel ≤ 6 ∧ (t.rel = 6 → t.kind = 0)) ∧ t.text.size ≤ 200
def TellsOne (t : Term) (w : World) (e : Ending) (w' : World) : Prop := ∃ b : Bool, e = .returned (.bool b) ∧ (b = true → OneP t) ∧ Below w.heap.size w w'
theorem TellsOne.mk_ {t : Term} {w w' : World} {e : Ending} {b : Bool} (h : e = .returned (.bool b)) (hb : Below w.heap.size w w') (hs : b = true → OneP t) : TellsOne t w e w' := ⟨b, h, hs, hb⟩

/-- The six cells of a term. -/
structure TermAt (w : World) (a : Addr) (t : Term) : Prop where
  c0 : w.cell? a = some (.string t.field)
  c1 : w.cell? ⟨a.block, a.off + 1, none⟩ = some (.int .i64 t.rel)
  c2 : w.cell? ⟨a.block, a.off + 2, none⟩ = some (.int .i64 t.kind)
  c3 : w.cell? ⟨a.block, a.off + 3, none⟩ = some (.string t.text)
  c4 : w.cell? ⟨a.block, a.off + 4, none⟩ = some (.int .i64 t.num)
  c5 : w.cell? ⟨a.block, a.off + 5, none⟩ = some (.bool t.tru)
theorem TermAt.below {w w1 : World} {a : Addr} {t : Term} (h : TermAt w a t) (hb : Below w.heap.size w w1) : TermAt w1 a t :=
  ⟨pw_cell_below hb h.c0, pw_cell_below hb h.c1, pw_cell_below hb h.c2, pw_cell_below hb h.c3, pw_cell_below hb h.c4, pw_cell_below hb h.c5⟩
theorem TermAt.boxed (w : World) (t : Term) (T : Nat) : TermAt (w.alloc (.cells #[.string t.field, .int .i64 t.rel, .int .i64 t.kind, .string t.text, .int .i64 t.num, .bool t.tru] T)) ⟨w.heap.size, 0, none⟩ t :=
  ⟨by simp [World.cell?_alloc_new], by simp [World.cell?_alloc_new], by simp [World.cell?_alloc_new], by simp [World.cell?_alloc_new], by simp [World.cell?_alloc_new], by simp [World.cell?_alloc_new]⟩

set_option maxHeartbeats 4000000 in
set_option maxRecDepth 100000 in
theorem one_any (f : ByteArray) (rel kind : Int) (text : ByteArray) (num : Int) (tru : Bool) (w : World) : Calls Try.prog 15 #[.agg #[.string f, .int .i64 rel, .int .i64 kind, .string text, .int .i64 num, .bool tru]] w fun e w' => TellsOne ⟨f, rel, kind, text, num, tru⟩ w e w' := by
  go_enter Try.func15, Try.ntmps15
  go_upto_region 1 with fail
  go_cut [0, 28] (fun _ v28 wc => ∃ b : Bool, v28 = .bool b ∧ Aside0 (b = false → (0 ≤ rel ∧ rel ≤ 6 ∧ (rel = 6 → kind = 0)) ∧ text.size ≤ 200) ∧ Aside0 (TermAt wc ⟨w.heap.size, 0, none⟩ ⟨f, rel, kind, text, num, tru⟩) ∧ Aside0 (Below w.heap.size w wc))
  case first =>
    have HB0 := Lib.hid ((Below.refl w.heap.size w).alloc (Nat.le_refl _) (.cells #[.string f, .int .i64 rel, .int .i64 kind, .string text, .int .i64 num, .bool tru] 47))
    have HT0 := Lib.hid (TermAt.boxed w ⟨f, rel, kind, text, num, tru⟩ 47)
    go_wp2_with fail
    refine (value_any _ _ _ _ _).mono ?_
    rintro e w1 ⟨b, rfl, hsz, HB1⟩
    have HT := Aside0.mk (HT0.out.below HB1)
    have HB := Aside0.mk (below_then HB0.out HB0.out.size HB1)
    have hx1 := HT.out.c1
    have hx2 := HT.out.c2
    simp only [Nat.zero_add] at hx1 hx2
    clear HB0 HT0 HB1
    cases b
    · clear hsz
      go_wp2
      all_goals (go_meet; exact ⟨_, rfl, ⟨fun h => by simp at h⟩, HT, HB⟩)
    · have hsz := hsz rfl
      go_wp2
      all_goals (go_meet; exact ⟨_, rfl, ⟨fun h => by first | (simp at h; done) | (simp at h; omega) | (simp at h; exact ⟨⟨by omega, by omega, fun _ => by simp_all⟩, hsz⟩)⟩, HT, HB⟩)
  obtain ⟨b, rfl, hP, HT, HB⟩ := hcut
  cases b
  case true =>
    go_wp2
    go_ret
    exact TellsOne.mk_ rfl HB.out (fun h => by cases h)
  have hP := hP.out rfl
  have h0 := HT.out.c0
  have h1 := HT.out.c1
  have h2 := HT.out.c2
  have h4 := HT.out.c4
  simp only [Nat.zero_add] at h0 h1 h2 h4
  have HP := Lib.hid hP
  clear hP
  go_wp2_with fail
  refine (text2_is _ _).mono ?_
  rintro e w' ⟨rfl, rfl⟩
  cases hx : isText f.toList
  · have HX := Lib.hid hx
    clear hx
    go_wp2_with fail
    refine (numberT_is _ _).mono ?_
    rintro e w' ⟨rfl, rfl⟩
    cases hy : isNum f.toList
    · have HY := Lib.hid hy
      clear hy
      have fin : OneP ⟨f, rel, kind, text, num, tru⟩ := ⟨fun h => (by rw [HX.out] at h; cases h), fun _ h => (by rw [HY.out] at h; cases h), HP.out.1, HP.out.2⟩
      have FIN := Lib.hid fin
      clear fin
      go_upto_region 7 with fail
      go_cut [73] (fun v73 wx => ∃ b : Bool, v73 = .bool b ∧ Aside0 (b = false → 2 ≤ f.size) ∧ wc = wx)
      case first =>
        by_cases hs : f.size < 2
        · go_wp2
          all_goals (go_meet; exact ⟨_, rfl, ⟨fun h => by simp at h⟩, rfl⟩)
        · have hs0 : 0 < f.size := by omega
          go_wp2
          all_goals (go_meet; exact ⟨_, rfl, ⟨fun h => by omega⟩, rfl⟩)
      obtain ⟨b, rfl, hsz, rfl⟩ := hcut
      cases b
      case true =>
        go_wp2
        go_ret
        exact TellsOne.mk_ rfl HB.out (fun h => by cases h)
      have hsz := hsz.out rfl
      have hz : (f.extract 1 f.size).size = f.size - 1 := by simp
      have Hz := Lib.hid hz
      clear hz
      go_wp2_with fail
      refine (name_any _ _).mono ?_
      rintro e w1 ⟨b, rfl, hs32, HB1⟩
      cases b
      · clear hs32
        go_wp2
        go_ret
        exact TellsOne.mk_ rfl (below_then HB.out HB.out.size HB1) (fun _ => FIN.out)
      · have hs32 := hs32 rfl
        rw [Hz.out] at hs32
        go_wp2_with fail
        refine (lead_any _ _ (by rw [Hz.out]; omega)).mono ?_
        rintro e w2 ⟨n, rfl, HB2⟩
        go_wp2
        all_goals (go_ret; exact TellsOne.mk_ rfl (below_then (below_then HB.out HB.out.size HB1) (Nat.le_trans HB.out.size HB1.size) HB2) (fun _ => FIN.out))
    · have HY := Lib.hid hy
      clear hy
      go_wp2
      all_goals (go_ret; refine TellsOne.mk_ rfl HB.out (fun h => ?_); exact ⟨fun h => (by rw [HX.out] at h; cases h), fun _ _ => (by simp_all), HP.out.1, HP.out.2⟩)
  · have HX := Lib.hid hx
    clear hx
    go_wp2
    all_goals (go_ret; refine TellsOne.mk_ rfl HB.out (fun h => ?_); exact ⟨fun _ => (by simp_all), fun h => (by rw [HX.out] at h; cases h), HP.out.1, HP.out.2⟩)
end Go.Proofs.Ytmckgcooehdbaaa
