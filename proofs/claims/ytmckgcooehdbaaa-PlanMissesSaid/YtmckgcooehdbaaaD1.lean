/- What a span has, and the contracts of number and rel: what is told of a number's field of a span, and of a relation. No condition. -/
import Derived.Test.YtmckgcooehdbaaaC
set_option linter.unusedVariables false
set_option linter.unusedSimpArgs false
namespace Go.Proofs.Ytmckgcooehdbaaa
open Go.RowKit Go.Proofs.YtmckgcooehdbaaaW.PrintWords

/-- An attribute. -/
structure Attr where
  name : ByteArray
  kind : Int
  text : ByteArray
  num : Int
  tru : Bool
/-- A span, and where its slices lie. -/
structure Span where
  trace : Int
  id : Int
  parent : Int
  service : ByteArray
  op : ByteArray
  start : Int
  dur : Int
  status : Int
  A1 : Option Addr
  n1 : Nat
  c1 : Nat
  A2 : Option Addr
  n2 : Nat
  c2 : Nat
  A3 : Option Addr
  n3 : Nat
  c3 : Nat
abbrev Span.cells (s : Span) : Array Value := #[.int .u64 s.trace, .int .u64 s.id, .int .u64 s.parent, .string s.service, .string s.op, .int .i64 s.start, .int .i64 s.dur, .int .i64 s.status, .slice s.A1 s.n1 s.c1, .slice s.A2 s.n2 s.c2, .slice s.A3 s.n3 s.c3]

/-- The numbers of a span are such as there are. -/
def SpanNums (s : Span) : Prop := (0 ≤ s.trace ∧ s.trace ≤ 18446744073709551615) ∧ (0 ≤ s.id ∧ s.id ≤ 18446744073709551615) ∧ (-9223372036854775808 ≤ s.start ∧ s.start ≤ 9223372036854775807) ∧ (-9223372036854775808 ≤ s.dur ∧ s.dur ≤ 9223372036854775807)

/-- A number's field: start, dur and trace are told as they are, if they aren't below 0. -/
def NumIs (f : List UInt8) (s : Span) (n : Int) : Prop :=
  (f = startL → 0 ≤ s.start → n = s.start) ∧ (f = durL → 0 ≤ s.dur → n = s.dur) ∧ (f = traceL → n = s.trace)
def TellsNum (f : List UInt8) (s : Span) (w : World) (e : Ending) (w' : World) : Prop := ∃ n, e = .returned (.tuple #[.int .u64 n, .bool (isNum f)]) ∧ NumIs f s n ∧ Below w.heap.size w w'
theorem TellsNum.mk_ {f : List UInt8} {s : Span} {w w' : World} {e : Ending} {n : Int} {b : Bool} (h : e = .returned (.tuple #[.int .u64 n, .bool b])) (hb : b = isNum f) (hn : NumIs f s n) (hB : Below w.heap.size w w') : TellsNum f s w e w' := by
  subst hb
  exact ⟨n, h, hn, hB⟩

set_option maxHeartbeats 4000000 in
set_option maxRecDepth 100000 in
theorem number_any (f : ByteArray) (s : Span) (w : World) (hs : SpanNums s) :
    Calls Try.prog 41 #[.string f, .agg #[.int .u64 s.trace, .int .u64 s.id, .int .u64 s.parent, .string s.service, .string s.op, .int .i64 s.start, .int .i64 s.dur, .int .i64 s.status, .slice s.A1 s.n1 s.c1, .slice s.A2 s.n2 s.c2, .slice s.A3 s.n3 s.c3]] w fun e w' => TellsNum f.toList s w e w' := by
  have HB := Lib.hid ((Below.refl w.heap.size w).alloc (Nat.le_refl _) (.cells #[.int .u64 s.trace, .int .u64 s.id, .int .u64 s.parent, .string s.service, .string s.op, .int .i64 s.start, .int .i64 s.dur, .int .i64 s.status, .slice s.A1 s.n1 s.c1, .slice s.A2 s.n2 s.c2, .slice s.A3 s.n3 s.c3] 31))
  have HS := Lib.hid hs
  clear hs
  generalize hF : f.toList = F at *
  by_cases hd : F = [100, 117, 114]
  · subst hd
    have hw : Hid (NumIs [100, 117, 114] s (IntKind.u64.wrap s.dur)) := by
      refine ⟨fun h => by simp [startL] at h, fun _ h0 => ?_, fun h => by simp [traceL] at h⟩
      have := HS.out.2.2.2
      rw [IntKind.wrap_u64]; omega
    go_enter Try.func41, Try.ntmps41
    go_wp2
    go_ret2
    exact TellsNum.mk_ rfl rfl hw.out HB.out
  by_cases hs : F = [115, 116, 97, 114, 116]
  · subst hs
    have hw : Hid (NumIs [115, 116, 97, 114, 116] s (IntKind.u64.wrap s.start)) := by
      refine ⟨fun _ h0 => ?_, fun h => by simp [durL] at h, fun h => by simp [traceL] at h⟩
      have := HS.out.2.2.1
      rw [IntKind.wrap_u64]; omega
    clear hd
    go_enter Try.func41, Try.ntmps41
    go_wp2
    go_ret2
    exact TellsNum.mk_ rfl rfl hw.out HB.out
  by_cases ht : F = [116, 114, 97, 99, 101]
  · subst ht
    have hw : Hid (NumIs [116, 114, 97, 99, 101] s s.trace) := ⟨fun h => by simp [startL] at h, fun h => by simp [durL] at h, fun _ => rfl⟩
    clear hd hs
    go_enter Try.func41, Try.ntmps41
    go_wp2
    go_ret2
    exact TellsNum.mk_ rfl rfl hw.out HB.out
  have hw : Hid (∀ n, NumIs F s n) := fun n => ⟨fun h => absurd h hs, fun h => absurd h hd, fun h => absurd h ht⟩
  have e1 : (F == [100, 117, 114]) = false := beq_eq_false_iff_ne.mpr hd
  have e2 : (F == [115, 116, 97, 114, 116]) = false := beq_eq_false_iff_ne.mpr hs
  have e3 : (F == [116, 114, 97, 99, 101]) = false := beq_eq_false_iff_ne.mpr ht
  clear hd hs ht
  go_enter Try.func41, Try.ntmps41
  go_wp2
  all_goals (go_ret2; exact TellsNum.mk_ rfl (by simp [isNum, *]) (hw.out _) HB.out)

/-- Does a relation hold? -/
def relF (r : Int) (less more : Bool) : Bool :=
  if r == 0 then !less && !more else if r == 1 then less || more else if r == 2 then less else if r == 3 then !more else if r == 4 then more else r == 5 && !less
set_option maxRecDepth 100000 in
theorem rel_any (r : Int) (less more : Bool) (w : World) : Calls Try.prog 42 #[.int .i64 r, .bool less, .bool more] w fun e w' => e = .returned (.bool (relF r less more)) ∧ w = w' := by
  cases less <;> cases more
  all_goals
    go_enter Try.func42, Try.ntmps42
    go_wp2
    all_goals (go_ret; exact ⟨by simp [relF, *], rfl⟩)
end Go.Proofs.Ytmckgcooehdbaaa
