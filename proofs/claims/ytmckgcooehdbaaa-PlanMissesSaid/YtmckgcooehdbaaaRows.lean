/-
  No cell of these rows narrows 'for every input' (looked for: loops, veiled, ifaces, maps, wideKeys, modest, calm, conditions, laid).
  DERIVED. THE GIVEN ROWS OF THIS SEAT. 3 by the template 'for every input the law returns true; each argument reads behind the call as it read before'; 0 by the template 'total and deterministic' (their statements: YtmckgcooehdbaaaTotals.lean).
  GIVEN WITH THE SEED: the statements are not yours to turn. If you find one false, say at which input.
  Laid BY PROGRAM, IN A SANDBOX (cutbox-rows.mjs): the forced cells as the released guide's own fill.sh prints them over the translation 206c58ebd09c2feb… (all of the seat's roots in one cut). By AI agents, Wed Nov 11 2026. No macro, syntax, notation, axiom, sorry.
-/
import Derived.Test.YtmckgcooehdbaaaChecked
import GoSem.Claim
import GoSem.ClaimJoined
import GoSem.ClaimMapViews
import Derived.JoinedTies
import Derived.KernelRfl
namespace Go.Proofs.Ytmckgcooehdbaaa
/- THE CELL 'sum', in the pinned program and in every row, IS THE sha256 OF THE DUMP (.gsa) THAT YtmckgcooehdbaaaProg.lean LOADS. Nothing in Lean hashes anything: it is a label: what it is worth is what the hold of that sum in a sandbox is worth. -/
noncomputable def Try.pinned : Pinned := { name := "ytmckgcooehdbaaa", sum := "206c58ebd09c2febb86da7be5e1132bbac27dd14e3db99f24c20adc87f8f6592", checked := Try.checked }
namespace Rows
def none {H : Type} : Left H := { results := [], args := [] }

/-- 'cambiumlaw23.PlanMisses': WHATEVER THE INPUT: true; the input reads as it did. -/
def planMissesSpec : ChangeSpec := { name := "planMisses", fn := fun _ => fun
  | [d1, d2, d3] => { results := [.lit (.bool true)], args := [d1, d2, d3] }
  | _ => none }
def planMissesRow : OpenClaim := { program := "ytmckgcooehdbaaa", sum := "206c58ebd09c2febb86da7be5e1132bbac27dd14e3db99f24c20adc87f8f6592", func := "cambium/cambiumlaw23.PlanMisses", spec := "planMisses", unfollowed := true, recurses := true, apart := false }
def PlanMissesSaid : Prop := planMissesRow.holds Try.pinned (OpenSpec.ofChange planMissesSpec)

/-- ITS FALSE NEIGHBOUR: 'it returns false'. Refute it at one input. -/
def planMissesWrong : ChangeSpec := { name := "planMisses", fn := fun _ => fun
  | [d1, d2, d3] => { results := [.lit (.bool false)], args := [d1, d2, d3] }
  | _ => none }
def PlanMissesWrongFalsely : Prop := planMissesRow.holds Try.pinned (OpenSpec.ofChange planMissesWrong)

/-- 'cambiumlaw23.PlanBounds': WHATEVER THE INPUT: true; the input reads as it did. -/
def planBoundsSpec : ChangeSpec := { name := "planBounds", fn := fun _ => fun
  | [d1, d2, d3] => { results := [.lit (.bool true)], args := [d1, d2, d3] }
  | _ => none }
def planBoundsRow : OpenClaim := { program := "ytmckgcooehdbaaa", sum := "206c58ebd09c2febb86da7be5e1132bbac27dd14e3db99f24c20adc87f8f6592", func := "cambium/cambiumlaw23.PlanBounds", spec := "planBounds", unfollowed := true, recurses := true, apart := false }
def PlanBoundsSaid : Prop := planBoundsRow.holds Try.pinned (OpenSpec.ofChange planBoundsSpec)

/-- ITS FALSE NEIGHBOUR: 'it returns false'. Refute it at one input. -/
def planBoundsWrong : ChangeSpec := { name := "planBounds", fn := fun _ => fun
  | [d1, d2, d3] => { results := [.lit (.bool false)], args := [d1, d2, d3] }
  | _ => none }
def PlanBoundsWrongFalsely : Prop := planBoundsRow.holds Try.pinned (OpenSpec.ofChange planBoundsWrong)

/-- 'cambiumlaw23.PlanReady': WHATEVER THE INPUT: true; the input reads as it did. -/
def planReadySpec : ChangeSpec := { name := "planReady", fn := fun _ => fun
  | [d1, d2] => { results := [.lit (.bool true)], args := [d1, d2] }
  | _ => none }
def planReadyRow : OpenClaim := { program := "ytmckgcooehdbaaa", sum := "206c58ebd09c2febb86da7be5e1132bbac27dd14e3db99f24c20adc87f8f6592", func := "cambium/cambiumlaw23.PlanReady", spec := "planReady", unfollowed := true, recurses := true, apart := false }
def PlanReadySaid : Prop := planReadyRow.holds Try.pinned (OpenSpec.ofChange planReadySpec)

/-- ITS FALSE NEIGHBOUR: 'it returns false'. Refute it at one input. -/
def planReadyWrong : ChangeSpec := { name := "planReady", fn := fun _ => fun
  | [d1, d2] => { results := [.lit (.bool false)], args := [d1, d2] }
  | _ => none }
def PlanReadyWrongFalsely : Prop := planReadyRow.holds Try.pinned (OpenSpec.ofChange planReadyWrong)

/- THE SECOND FORM. 'bulk': how many values and letters a reading holds, each counted each time it is reached (what is shared counts as often as it is met; a slice's spare places count too). A statement '..UptoSaid' is the law's where the arguments, and the package variables that the reading takes, are together of bulk at most 1048576: NARROWER than '..Said'. Prove '..Said' where nothing that the law and all that it calls make is longer than what came in: it says more and counts as full. Else prove '..UptoSaid'. A law counts once. -/
mutual
def uptoBulk {H : Type} : DataW H → Nat
  | .lit (.string bytes) => bytes.length + 1
  | .lit _ => 1
  | .nil => 1
  | .ptr d => uptoBulk d + 1
  | .slice elems spare => uptoBulkAll elems + uptoBulkAll spare + 1
  | .agg parts => uptoBulkAll parts + 1
  | .iface _ d => uptoBulk d + 1
  | .map entries => uptoBulkEntries entries + 1
  | .held _ => 1
def uptoBulkAll {H : Type} : List (DataW H) → Nat
  | [] => 0
  | d :: r => uptoBulk d + uptoBulkAll r
def uptoBulkEntries {H : Type} : List (Lit × DataW H) → Nat
  | [] => 0
  | x :: r => uptoBulkEntry x + uptoBulkEntries r
def uptoBulkEntry {H : Type} : Lit × DataW H → Nat
  | (.string bytes, d) => bytes.length + uptoBulk d + 1
  | (_, d) => uptoBulk d + 1
 end
def uptoSmall : (H : Type) → List (DataW H) → Bool := fun _ ds => decide (uptoBulkAll ds ≤ 1048576)
def OpenSpec.upto (s : _root_.Go.ChangeSpec) : _root_.Go.OpenSpec := { _root_.Go.OpenSpec.ofChange s with cond := some uptoSmall }

/-- 'cambiumlaw23.PlanMisses', WHERE WHAT IT READS IS OF BULK AT MOST 1048576: true; the input reads as it did. -/
def planMissesUptoRow : OpenClaim := { program := "ytmckgcooehdbaaa", sum := "206c58ebd09c2febb86da7be5e1132bbac27dd14e3db99f24c20adc87f8f6592", func := "cambium/cambiumlaw23.PlanMisses", spec := "planMisses", unfollowed := true, recurses := true, apart := false, narrowed := true }
def PlanMissesUptoSaid : Prop := planMissesUptoRow.holds Try.pinned (OpenSpec.upto planMissesSpec)

/-- 'cambiumlaw23.PlanBounds', WHERE WHAT IT READS IS OF BULK AT MOST 1048576: true; the input reads as it did. -/
def planBoundsUptoRow : OpenClaim := { program := "ytmckgcooehdbaaa", sum := "206c58ebd09c2febb86da7be5e1132bbac27dd14e3db99f24c20adc87f8f6592", func := "cambium/cambiumlaw23.PlanBounds", spec := "planBounds", unfollowed := true, recurses := true, apart := false, narrowed := true }
def PlanBoundsUptoSaid : Prop := planBoundsUptoRow.holds Try.pinned (OpenSpec.upto planBoundsSpec)

/-- 'cambiumlaw23.PlanReady', WHERE WHAT IT READS IS OF BULK AT MOST 1048576: true; the input reads as it did. -/
def planReadyUptoRow : OpenClaim := { program := "ytmckgcooehdbaaa", sum := "206c58ebd09c2febb86da7be5e1132bbac27dd14e3db99f24c20adc87f8f6592", func := "cambium/cambiumlaw23.PlanReady", spec := "planReady", unfollowed := true, recurses := true, apart := false, narrowed := true }
def PlanReadyUptoSaid : Prop := planReadyUptoRow.holds Try.pinned (OpenSpec.upto planReadySpec)

end Rows
end Go.Proofs.Ytmckgcooehdbaaa
