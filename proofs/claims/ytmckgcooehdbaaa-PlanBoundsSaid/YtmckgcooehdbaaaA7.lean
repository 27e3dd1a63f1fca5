/- The contracts of May and Small of a query, for every row of terms. No condition beyond those that each theorem names. -/
import Derived.Test.YtmckgcooehdbaaaA6
set_option linter.unusedVariables false
set_option linter.unusedSimpArgs false
namespace Go.Proofs.Ytmckgcooehdbaaa
open Go.RowKit Go.Proofs.YtmckgcooehdbaaaW.PrintWords

/-- A row of terms that is read. -/
structure TermsAt (w : World) (A : Option Addr) (n : Nat) (ts : List Term) : Prop where
  len : ts.length = n
  max : n ≤ 9223372036854775807
  at_ : ∀ i (h : i < ts.length), ∃ ad, A = some ad ∧ TermAt w (ad.add (i * 6)) ts[i]
theorem TermsAt.below {w w1 : World} {A : Option Addr} {n : Nat} {ts : List Term} (h : TermsAt w A n ts) (hb : Below w.heap.size w w1) : TermsAt w1 A n ts :=
  ⟨h.len, h.max, fun i hi => let ⟨ad, ha, ht⟩ := h.at_ i hi; ⟨ad, ha, ht.below hb⟩⟩

/-- What a query that may be has. -/
def MayP (ts : List Term) (o : Int) : Prop := (∀ t ∈ ts, OneP t) ∧ ts.length ≤ 8 ∧ 0 ≤ o ∧ o ≤ 2
def TellsMay (ts : List Term) (o : Int) (w : World) (e : Ending) (w' : World) : Prop := ∃ b : Bool, e = .returned (.bool b) ∧ (b = true → MayP ts o) ∧ Below w.heap.size w w'
theorem TellsMay.mk_ {ts : List Term} {o : Int} {w w' : World} {e : Ending} {b : Bool} (h : e = .returned (.bool b)) (hb : Below w.heap.size w w') (hs : b = true → MayP ts o) : TellsMay ts o w e w' := ⟨b, h, hs, hb⟩

set_option maxHeartbeats 4000000 in
set_option maxRecDepth 100000 in
theorem may_any (A : Option Addr) (n c : Nat) (ts : List Term) (o : Int) (w : World) (h : TermsAt w A n ts) : Calls Try.prog 8 #[.agg #[.slice A n c, .int .i64 o]] w fun e w' => TellsMay ts o w e w' := by
  have hm := h.max
  have hl := h.len
  subst hl
  have H := Lib.hid h
  clear h
  go_enter Try.func8, Try.ntmps8
  have HB0 := Lib.hid ((Below.refl w.heap.size w).alloc (Nat.le_refl _) (.cells #[.slice A ts.length c, .int .i64 o] 24))
  go_wp2
  go_loopw [3] (fun v3 wr => ∃ i : Nat, v3 = .int .i64 i ∧ i ≤ ts.length ∧ Aside0 (∀ j (hj : j < ts.length), j < i → OneP ts[j]) ∧ Aside0 (Below w.heap.size w wr) ∧ wr.cell? ⟨w.heap.size, 0, none⟩ = some (.slice A ts.length c) ∧ wr.cell? ⟨w.heap.size, 1, none⟩ = some (.int .i64 o)) (fun v3 _ => ts.length - (intOf v3).toNat)
  case atStart => exact ⟨0, rfl, by omega, ⟨fun j _ h => by omega⟩, ⟨HB0.out⟩, by simp [World.cell?_alloc_new], by simp [World.cell?_alloc_new]⟩
  case round =>
    obtain ⟨i, rfl, hi, HO, HB, hc0, hc1⟩ := hrel
    by_cases hlt : i < ts.length
    · obtain ⟨ad, ea, ht⟩ := H.out.at_ i hlt
      subst ea
      have ht := ht.below HB.out
      have e0 := ht.c0
      have e1 := ht.c1
      have e2 := ht.c2
      have e3 := ht.c3
      have e4 := ht.c4
      have e5 := ht.c5
      clear ht
      go_wp2_with fail
      refine (one_any _ _ _ _ _ _ _).mono ?_
      rintro e w1 ⟨b, rfl, hP, HB1⟩
      have g0 := pw_cell_below HB1 hc0
      have g1 := pw_cell_below HB1 hc1
      have HB2 := Aside0.mk (below_then HB.out HB.out.size HB1)
      clear HB1 hc0 hc1 e0 e1 e2 e3 e4 e5
      cases b
      · clear hP
        go_wp2
        go_ret
        exact TellsMay.mk_ rfl HB2.out (fun h => by cases h)
      · have HO' : Aside0 (∀ j (hj : j < ts.length), j < i + 1 → OneP ts[j]) := ⟨fun j hj h => by
          rcases Nat.lt_or_ge j i with h2 | h2
          · exact HO.out j hj h2
          · obtain rfl : j = i := by omega
            exact hP rfl⟩
        clear hP HO
        go_wp2
        go_roundw
        case rel => exact ⟨i + 1, by go_num, by omega, HO', HB2, g0, g1⟩
        case measure => simp [intOf]; omega
    · have HM : Aside0 (∀ t ∈ ts, OneP t) := ⟨fun t ht => by
        obtain ⟨j, hj, rfl⟩ := List.getElem_of_mem ht
        exact HO.out j hj (by omega)⟩
      clear HO
      go_wp2
      all_goals (go_ret; refine TellsMay.mk_ rfl HB.out (fun h => ?_); exact ⟨HM.out, by first | omega | (simp_all; omega) | (simp_all; done), by first | omega | (simp_all; done), by first | omega | (simp_all; done)⟩)

set_option maxHeartbeats 4000000 in
set_option maxRecDepth 100000 in
theorem smallQ_any (A : Option Addr) (n c : Nat) (ts : List Term) (o : Int) (w : World) (h : TermsAt w A n ts) : Calls Try.prog 7 #[.agg #[.slice A n c, .int .i64 o]] w fun e w' => AnyB w e w' := by
  have hm := h.max
  have hl := h.len
  subst hl
  have H := Lib.hid h
  clear h
  go_enter Try.func7, Try.ntmps7
  have HB0 := Lib.hid ((Below.refl w.heap.size w).alloc (Nat.le_refl _) (.cells #[.slice A ts.length c, .int .i64 o] 24))
  go_wp2
  go_loopw [3, 4] (fun v3 v4 wr => ∃ (i : Nat) (x : Int), v3 = .int .i64 x ∧ v4 = .int .i64 i ∧ i ≤ ts.length ∧ Aside0 (Below w.heap.size w wr) ∧ wr.cell? ⟨w.heap.size, 0, none⟩ = some (.slice A ts.length c)) (fun _ v4 _ => ts.length - (intOf v4).toNat)
  case atStart => exact ⟨0, 0, rfl, rfl, by omega, ⟨HB0.out⟩, by simp [World.cell?_alloc_new]⟩
  case round =>
    obtain ⟨i, x, rfl, rfl, hi, HB, hc0⟩ := hrel
    by_cases hlt : i < ts.length ∧ x ≤ 4000
    · obtain ⟨hlt, hx⟩ := hlt
      obtain ⟨ad, ea, ht⟩ := H.out.at_ i hlt
      subst ea
      have ht := ht.below HB.out
      have e0 := ht.c0
      have e3 := ht.c3
      clear ht
      have p1 := eq_true (show (0 : Int) ≤ (i : Int) by omega)
      have p2 := eq_true (show (i : Int) < (ts.length : Int) by omega)
      go_wp2
      repeat (go_quiet (fail); try go_wp2)
      go_roundw
      case rel => exact ⟨i + 1, _, rfl, by go_num, by omega, ⟨by repeat (first | exact HB.out | apply pw_below_drewN | apply below_drew)⟩, hc0⟩
      case measure => simp [intOf]; omega
    · by_cases h2 : i < ts.length
      · have h3 : ¬ x ≤ 4000 := fun h => hlt ⟨h2, h⟩
        clear hlt
        go_wp2
        go_ret
        exact AnyB.mk_ rfl HB.out
      · clear hlt
        go_wp2
        go_ret
        exact AnyB.mk_ rfl HB.out
end Go.Proofs.Ytmckgcooehdbaaa
