/- The contract of Wants, and of IndexFunc under it, for every query and every field. No condition beyond those that each theorem names. -/
import Derived.Test.YtmckgcooehdbaaaA8
set_option linter.unusedVariables false
set_option linter.unusedSimpArgs false
namespace Go.Proofs.Ytmckgcooehdbaaa
open Go.RowKit Go.Proofs.YtmckgcooehdbaaaW.PrintWords

/-- What a term that asks for a text is. -/
def wantP (f : List UInt8) (t : Term) : Bool := t.field.toList == f && t.rel == 0

set_option maxHeartbeats 2000000 in
set_option maxRecDepth 100000 in
theorem wants1_any (f : ByteArray) (rel kind : Int) (text : ByteArray) (num : Int) (tru : Bool) (a : Addr) (g : ByteArray) (w : World) (ha : w.cell? a = some (.string g)) :
    Calls Try.prog 35 #[.agg #[.string f, .int .i64 rel, .int .i64 kind, .string text, .int .i64 num, .bool tru], .pointer (some a)] w fun e w' => e = .returned (.bool (wantP g.toList ⟨f, rel, kind, text, num, tru⟩)) ∧ Below w.heap.size w w' := by
  have h1 : ∀ o, (w.alloc o).cell? a = some (.string g) := fun o => (World.cell?_alloc_lt _ _ _ (World.block_lt_of_cell? _ _ ha)).trans ha
  have h2 := h1 (.cells #[.string f, .int .i64 rel, .int .i64 kind, .string text, .int .i64 num, .bool tru] 47)
  clear h1
  cases hf : (f.toList == g.toList)
  · go_enter Try.func35, Try.ntmps35
    go_wp2
    go_ret
    exact ⟨by simp [wantP, hf], (Below.refl _ _).alloc (Nat.le_refl _) _⟩
  · go_enter Try.func35, Try.ntmps35
    go_wp2
    go_ret
    exact ⟨by simp [wantP, hf], (Below.refl _ _).alloc (Nat.le_refl _) _⟩

/-- The first place at which a text is asked for; -1: none. -/
def FirstAt (f : List UInt8) (ts : List Term) (k : Int) : Prop :=
  (k = -1 ∧ ∀ t ∈ ts, wantP f t = false) ∨ ∃ i : Nat, ∃ h : i < ts.length, k = i ∧ wantP f ts[i] = true
def TellsIdx (f : List UInt8) (ts : List Term) (w : World) (e : Ending) (w' : World) : Prop := ∃ k : Int, e = .returned (.int .i64 k) ∧ FirstAt f ts k ∧ Below w.heap.size w w'
theorem TellsIdx.mk_ {f : List UInt8} {ts : List Term} {w w' : World} {e : Ending} {k : Int} (h : e = .returned (.int .i64 k)) (hb : Below w.heap.size w w') (hs : FirstAt f ts k) : TellsIdx f ts w e w' := ⟨k, h, hs, hb⟩

set_option maxHeartbeats 2000000 in
set_option maxRecDepth 100000 in
theorem index_any (A : Option Addr) (n c : Nat) (ts : List Term) (a : Addr) (g : ByteArray) (w : World) (h : TermsAt w A n ts) (ha : w.cell? a = some (.string g)) :
    Calls Try.prog 34 #[.slice A n c, .func (.func 35) #[] #[.pointer (some a)]] w fun e w' => TellsIdx g.toList ts w e w' := by
  have hm := h.max
  have hl := h.len
  subst hl
  have H := Lib.hid h
  clear h
  have HA := Lib.hid ha
  clear ha
  go_enter Try.func34, Try.ntmps34
  go_wp2
  go_loopw [8] (fun v8 wr => ∃ i : Nat, v8 = .int .i64 i ∧ i ≤ ts.length ∧ Aside0 (∀ j (hj : j < ts.length), j < i → wantP g.toList ts[j] = false) ∧ Aside0 (Below w.heap.size w wr)) (fun v8 _ => ts.length - (intOf v8).toNat)
  case atStart => exact ⟨0, rfl, by omega, ⟨fun j _ h => by omega⟩, ⟨Below.refl _ _⟩⟩
  case round =>
    obtain ⟨i, rfl, hi, HO, HB⟩ := hrel
    by_cases hlt : i < ts.length
    · obtain ⟨ad, ea, ht⟩ := H.out.at_ i hlt
      subst ea
      have ht := ht.below HB.out
      have e0 := ht.c0
      have e1 := ht.c1
      have e2 := ht.c2
      have e3 := ht.c3
      have e4 := ht.c4
      have e5 := ht.c5
      clear ht
      go_wp2_with fail
      refine (wants1_any _ _ _ _ _ _ a g _ (pw_cell_below HB.out HA.out)).mono ?_
      rintro e w1 ⟨rfl, HB1⟩
      have HB2 := Aside0.mk (below_then HB.out HB.out.size HB1)
      clear HB1 e0 e1 e2 e3 e4 e5
      cases hp : wantP g.toList ts[i]
      · have HO' : Aside0 (∀ j (hj : j < ts.length), j < i + 1 → wantP g.toList ts[j] = false) := ⟨fun j hj h => by
          rcases Nat.lt_or_ge j i with h2 | h2
          · exact HO.out j hj h2
          · obtain rfl : j = i := by omega
            exact hp⟩
        clear hp HO
        go_wp2
        go_roundw
        case rel => exact ⟨i + 1, by go_num, by omega, HO', HB2⟩
        case measure => simp [intOf]; omega
      · have HP := Lib.hid hp
        clear hp
        go_wp2
        go_ret
        exact TellsIdx.mk_ rfl HB2.out (.inr ⟨i, hlt, rfl, HP.out⟩)
    · have HF : Aside0 (FirstAt g.toList ts (-1)) := ⟨.inl ⟨rfl, fun t ht => by
        obtain ⟨j, hj, rfl⟩ := List.getElem_of_mem ht
        exact HO.out j hj (by omega)⟩⟩
      clear HO
      go_wp2
      go_ret
      exact TellsIdx.mk_ rfl HB.out HF.out

/-- What a query asks of a text. -/
def Wanted (f : List UInt8) (ts : List Term) (text : ByteArray) (b : Bool) : Prop :=
  (b = false ∧ ∀ t ∈ ts, wantP f t = false) ∨ (b = true ∧ ∃ t ∈ ts, wantP f t = true ∧ text = t.text)
def TellsWants (f : List UInt8) (ts : List Term) (w : World) (e : Ending) (w' : World) : Prop := ∃ (text : ByteArray) (b : Bool), e = .returned (.tuple #[.string text, .bool b]) ∧ Wanted f ts text b ∧ Below w.heap.size w w'
theorem TellsWants.mk_ {f : List UInt8} {ts : List Term} {w w' : World} {e : Ending} {text : ByteArray} {b : Bool} (h : e = .returned (.tuple #[.string text, .bool b])) (hb : Below w.heap.size w w') (hs : Wanted f ts text b) : TellsWants f ts w e w' := ⟨text, b, h, hs, hb⟩

set_option maxHeartbeats 2000000 in
set_option maxRecDepth 100000 in
theorem wants_any (A : Option Addr) (n c : Nat) (ts : List Term) (o : Int) (f : ByteArray) (w : World) (h : TermsAt w A n ts) : Calls Try.prog 17 #[.agg #[.slice A n c, .int .i64 o], .string f] w fun e w' => TellsWants f.toList ts w e w' := by
  have hmf : ∀ (fn : Fn) (first cap : Array Value) (w : World), (Instr.makeFunc fn first cap).run Try.prog w = .ok (.func fn first cap) w := fun _ _ _ _ => rfl
  have hm := h.max
  have hl := h.len
  subst hl
  have H := Lib.hid h
  clear h
  have HB0 := Lib.hid (((Below.refl w.heap.size w).alloc (Nat.le_refl _) (.cells #[.slice A ts.length c, .int .i64 o] 24)).alloc (by simp) (.cells #[.string f] 9))
  have HQ0 := Lib.hid (show ((w.alloc (.cells #[.slice A ts.length c, .int .i64 o] 24)).alloc (.cells #[.string f] 9)).cell? ⟨w.heap.size, 0, none⟩ = some (.slice A ts.length c) from by simp [go_sem])
  go_enter Try.func17, Try.ntmps17
  go_wp2_with fail
  refine (index_any _ _ _ ts _ f _ (H.out.below HB0.out) (by simp [go_sem])).mono ?_
  rintro e w1 ⟨k, rfl, hk, HB1⟩
  have HQ := pw_cell_below HB1 HQ0.out
  have HB2 := Aside0.mk (below_then HB0.out HB0.out.size HB1)
  clear HB1
  rcases hk with ⟨rfl, hk⟩ | ⟨i, hi, rfl, hk⟩
  · have HK := Lib.hid hk
    clear hk
    go_wp2
    go_ret2
    exact TellsWants.mk_ rfl HB2.out (.inl ⟨rfl, HK.out⟩)
  · have HK := Lib.hid hk
    clear hk
    obtain ⟨ad, ea, ht⟩ := H.out.at_ i hi
    subst ea
    have e3 := (ht.below HB2.out).c3
    clear ht
    go_wp2
    go_ret2
    exact TellsWants.mk_ rfl HB2.out (.inr ⟨rfl, ts[i], List.getElem_mem hi, HK.out, rfl⟩)
end Go.Proofs.Ytmckgcooehdbaaa
