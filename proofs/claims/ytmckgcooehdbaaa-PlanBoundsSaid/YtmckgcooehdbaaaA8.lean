/- The contract of Bounds, and of the closure in it: the bounds are what boundsF says, for every query and every field. No condition beyond those that each theorem names. -/
import Derived.Test.YtmckgcooehdbaaaA7
import Derived.StillTactics
import Derived.RegionTactic
import Derived.ChangeAlike
set_option linter.unusedVariables false
set_option linter.unusedSimpArgs false
namespace Go.Proofs.Ytmckgcooehdbaaa
open Go.RowKit Go.Proofs.YtmckgcooehdbaaaW.PrintWords

/-- Two variables of the call's own: what they hold; they may be written. -/
structure TwoVars (w : World) (g0 g1 : Nat) (x y : Int) : Prop where
  c0 : w.cell? ⟨g0, 0, none⟩ = some (.int .i64 x)
  c1 : w.cell? ⟨g1, 0, none⟩ = some (.int .i64 y)
  f0 : w.frozen? ⟨g0, 0, none⟩ = false
  f1 : w.frozen? ⟨g1, 0, none⟩ = false
theorem TwoVars.set_ {w : World} {g0 g1 : Nat} {x y : Int} (h : TwoVars w g0 g1 x y) (hne : g0 ≠ g1) (a b : Int) :
    TwoVars ((w.setCell ⟨g0, 0, none⟩ (.int .i64 a)).setCell ⟨g1, 0, none⟩ (.int .i64 b)) g0 g1 a b := by
  have e1 : (w.setCell ⟨g0, 0, none⟩ (.int .i64 a)).cell? ⟨g1, 0, none⟩ = some (.int .i64 y) := by
    rw [World.cell?_setCell_other _ _ _ _ (by first | (simp; done) | (simp; omega))]; exact h.c1
  refine ⟨?_, World.cell?_setCell_same _ _ _ e1, by simp [h.f0], by simp [h.f1]⟩
  rw [World.cell?_setCell_other _ _ _ _ (by first | (simp; done) | (simp; omega))]
  exact World.cell?_setCell_same _ _ _ h.c0
theorem TwoVars.drew {w : World} {g0 g1 : Nat} {x y : Int} (h : TwoVars w g0 g1 x y) : TwoVars w.drew g0 g1 x y := ⟨h.c0, h.c1, h.f0, h.f1⟩

theorem TwoVars.alloc {w : World} {g0 g1 : Nat} {x y : Int} (h : TwoVars w g0 g1 x y) (o : Obj) : TwoVars (w.alloc o) g0 g1 x y := by
  have l0 := World.block_lt_of_cell? _ _ h.c0
  have l1 := World.block_lt_of_cell? _ _ h.c1
  simp only at l0 l1
  refine ⟨(World.cell?_alloc_lt _ _ _ l0).trans h.c0, (World.cell?_alloc_lt _ _ _ l1).trans h.c1, (World.frozen?_alloc_old _ _ _ (by simp; omega)).trans h.f0, (World.frozen?_alloc_old _ _ _ (by simp; omega)).trans h.f1⟩

/-- Two variables have been written, and nothing else. -/
def Narrowed (g0 g1 : Nat) (x y : Int) (w : World) (e : Ending) (w' : World) : Prop :=
  e = .returned (.tuple #[]) ∧ TwoVars w' g0 g1 x y ∧ ∀ B, B ≤ g0 → B ≤ g1 → Below B w w'
theorem Narrowed.mk_ {g0 g1 : Nat} {x y a b : Int} {w : World} (h : TwoVars w g0 g1 a b) (hne : g0 ≠ g1) {e : Ending} (he : e = .returned (.tuple #[])) (x' y' : Int) (hx : x' = x) (hy : y' = y) :
    Narrowed g0 g1 x y w e ((w.setCell ⟨g0, 0, none⟩ (.int .i64 x')).setCell ⟨g1, 0, none⟩ (.int .i64 y')).drew := by
  subst hx hy
  exact ⟨he, (h.set_ hne _ _).drew, fun B h0 h1 => ((((Below.refl _ _).setCell h0 _).setCell h1 _)).drew⟩

theorem narrow_any (lo hi : Int) (g0 g1 : Nat) (x y : Int) (w : World) (hne : g0 ≠ g1) (h : TwoVars w g0 g1 x y) :
    Calls Try.prog 33 #[.int .i64 lo, .int .i64 hi, .pointer (some ⟨g0, 0, none⟩), .pointer (some ⟨g1, 0, none⟩)] w fun e w' => Narrowed g0 g1 (max x lo) (min y hi) w e w' := by
  have h0 := h.c0
  have h1 := h.c1
  have f0 := h.f0
  have f1 := h.f1
  have h1' : ∀ v, (w.setCell ⟨g0, 0, none⟩ v).cell? ⟨g1, 0, none⟩ = some (.int .i64 y) := fun v => by
    rw [World.cell?_setCell_other _ _ _ _ (by first | (simp; done) | (simp; omega))]; exact h1
  have H := Lib.hid h
  clear h
  go_enter Try.func33, Try.ntmps33
  go_wp2
  go_region
  all_goals (try go_wp2)
  all_goals (go_end0; exact Narrowed.mk_ H.out hne rfl _ _ (by omega) (by omega))

/-! What the bounds are. -/
/-- One term narrows the bounds. -/
def narrowed (t : Term) (b : Int × Int) : Int × Int :=
  if t.rel == 0 then (max b.1 t.num, min b.2 t.num)
  else if t.rel == 2 then (max b.1 0, min b.2 (wrap64 (t.num - 1)))
  else if t.rel == 3 then (max b.1 0, min b.2 t.num)
  else if t.rel == 4 then (max b.1 (if t.num < wrap64 (t.num + 1) then wrap64 (t.num + 1) else t.num), min b.2 9223372036854775807)
  else if t.rel == 5 then (max b.1 t.num, min b.2 9223372036854775807)
  else b
def boundStep (f : List UInt8) (b : Int × Int) (t : Term) : Int × Int := if t.field.toList = f then narrowed t b else b
def boundsF (f : List UInt8) (ts : List Term) : Int × Int := ts.foldl (boundStep f) (0, 9223372036854775807)
theorem boundsF_snoc (f : List UInt8) (ts : List Term) (i : Nat) (h : i < ts.length) : boundsF f (ts.take (i + 1)) = boundStep f (boundsF f (ts.take i)) ts[i] := by
  unfold boundsF
  rw [List.take_succ_eq_append_getElem h, List.foldl_append]
  rfl

theorem twoVars_step {w1 : World} {g0 g1 : Nat} {x y : Int} {t : Term} {b : Int × Int} (h : TwoVars w1 g0 g1 x y) (hx : narrowed t b = (x, y)) : TwoVars w1 g0 g1 (narrowed t b).1 (narrowed t b).2 := by
  rw [hx]; exact h

def TellsBounds (f : List UInt8) (ts : List Term) (w : World) (e : Ending) (w' : World) : Prop :=
  e = .returned (.tuple #[.int .i64 (boundsF f ts).1, .int .i64 (boundsF f ts).2]) ∧ Below w.heap.size w w'

set_option maxHeartbeats 4000000 in
set_option maxRecDepth 100000 in
theorem bounds_any (A : Option Addr) (n c : Nat) (ts : List Term) (o : Int) (f : ByteArray) (w : World) (h : TermsAt w A n ts) : Calls Try.prog 16 #[.agg #[.slice A n c, .int .i64 o], .string f] w fun e w' => TellsBounds f.toList ts w e w' := by
  have hmf : ∀ (fn : Fn) (first cap : Array Value) (w : World), (Instr.makeFunc fn first cap).run Try.prog w = .ok (.func fn first cap) w := fun _ _ _ _ => rfl
  have hm := h.max
  have hl := h.len
  subst hl
  have H := Lib.hid h
  clear h
  go_enter Try.func16, Try.ntmps16
  have HB0 := Lib.hid ((((Below.refl w.heap.size w).alloc (Nat.le_refl _) (.cells #[.slice A ts.length c, .int .i64 o] 24)).alloc (by simp) (.cells #[.int .i64 0] 2)).alloc (by simp; omega) (.cells #[.int .i64 9223372036854775807] 2))
  go_wp2
  go_loopw [16] (fun v16 wr => ∃ i : Nat, v16 = .int .i64 i ∧ i ≤ ts.length ∧ Aside0 (TwoVars wr (w.heap.size + 1) (w.heap.size + 1 + 1) (boundsF f.toList (ts.take i)).1 (boundsF f.toList (ts.take i)).2) ∧ Aside0 (Below w.heap.size w wr) ∧ Aside0 (w.heap.size + 1 + 1 + 1 ≤ wr.heap.size)) (fun v16 _ => ts.length - (intOf v16).toNat)
  case atStart => exact ⟨0, rfl, by omega, ⟨⟨by simp [go_sem, boundsF], by simp [go_sem, boundsF], by simp [go_sem], by simp [go_sem]⟩⟩, ⟨HB0.out⟩, ⟨by simp⟩⟩
  case round =>
    obtain ⟨i, rfl, hi, HV, HB, HS⟩ := hrel
    by_cases hlt : i < ts.length
    · obtain ⟨ad, ea, ht⟩ := H.out.at_ i hlt
      subst ea
      have ht := ht.below HB.out
      have e0 := ht.c0
      have e1 := ht.c1
      have e2 := ht.c2
      have e3 := ht.c3
      have e4 := ht.c4
      have e5 := ht.c5
      have hsnoc := Aside0.mk (boundsF_snoc f.toList ts i hlt)
      generalize ts[i] = t at ht e0 e1 e2 e3 e4 e5 hsnoc
      clear ht
      go_upto_region 5 with fail
      go_cut [10] (fun v10 wc => ∃ g : Nat, v10 = .pointer (some ⟨g, 0, none⟩) ∧ Aside0 (TermAt wc ⟨g, 0, none⟩ t) ∧ Aside0 (TwoVars wc (w.heap.size + 1) (w.heap.size + 1 + 1) (boundsF f.toList (ts.take i)).1 (boundsF f.toList (ts.take i)).2) ∧ Aside0 (Below w.heap.size w wc) ∧ Aside0 (w.heap.size + 1 + 1 + 1 ≤ wc.heap.size))
      case first =>
        go_wp2
        go_meet
        exact ⟨wr.heap.size, rfl, ⟨TermAt.boxed _ _ _⟩, ⟨HV.out.alloc _⟩, ⟨HB.out.alloc HB.out.size _⟩, ⟨by have := HS.out; simp; omega⟩⟩
      clear e0 e1 e2 e3 e4 e5 HV HB HS
      obtain ⟨g, rfl, HT, HV, HB, HS⟩ := hcut
      have e0 := HT.out.c0
      have e1 := HT.out.c1
      have e4 := HT.out.c4
      simp only [Nat.zero_add] at e0 e1 e4
      clear HT
      have hz := HS.out
      by_cases hf : t.field.toList = f.toList
      · have hfb : (t.field.toList == f.toList) = true := beq_iff_eq.mpr hf
        have HF := Aside0.mk hf
        clear hf
        go_wp2_with (go_at_call 33; refine (narrow_any _ _ _ _ _ _ _ (by omega) HV.out).mono ?_; rintro e w1 ⟨rfl, HV3, HB3⟩)
        all_goals go_roundw
        all_goals first
          | (case measure => simp [intOf]; omega)
          | (case rel =>
              first
                | exact ⟨i + 1, by go_num, by omega, ⟨by rw [hsnoc.out, boundStep, if_pos HF.out]; exact twoVars_step HV3 (by simp [narrowed, *])⟩, ⟨HB.out.trans (HB3 _ (by omega) (by omega))⟩, ⟨by have := (HB3 0 (by omega) (by omega)).size; omega⟩⟩
                | exact ⟨i + 1, by go_num, by omega, ⟨by rw [hsnoc.out, boundStep, if_pos HF.out]; exact twoVars_step HV.out (by simp [narrowed, *])⟩, HB, HS⟩)
      · have hfb : (t.field.toList == f.toList) = false := beq_eq_false_iff_ne.mpr hf
        have HF := Aside0.mk hf
        clear hf
        have HS2 : boundsF f.toList (ts.take (i + 1)) = boundsF f.toList (ts.take i) := by rw [hsnoc.out]; simp only [boundStep]; rw [if_neg HF.out]
        have HV2 := HV.out
        rw [← HS2] at HV2
        have HV3 := Aside0.mk HV2
        clear HV2 HS2 HV
        go_wp2_with fail
        go_roundw
        case rel => exact ⟨i + 1, by go_num, by omega, HV3, HB, HS⟩
        case measure => simp [intOf]; omega
    · have hfin : ts.take i = ts := List.take_of_length_le (by omega)
      have HV2 := HV.out
      rw [hfin] at HV2
      have h0 := HV2.c0
      have h1 := HV2.c1
      clear HV HV2 hfin
      go_wp2
      repeat (go_quiet (fail); try go_wp2)
      go_ret2
      exact ⟨rfl, by repeat (first | exact HB.out | apply pw_below_drewN | apply below_drew)⟩
end Go.Proofs.Ytmckgcooehdbaaa
