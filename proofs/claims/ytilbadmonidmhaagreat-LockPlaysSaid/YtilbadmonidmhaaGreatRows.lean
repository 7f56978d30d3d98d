/-
  No cell of these rows narrows 'for every input' (looked for: loops, veiled, ifaces, maps, wideKeys, modest, calm, conditions, laid).
  DERIVED. THE GIVEN ROWS OF THIS SEAT. 7 by the template 'for every input the law returns true; each argument reads behind the call as it read before'; 0 by the template 'total and deterministic' (their statements: YtilbadmonidmhaaGreatTotals.lean).
  GIVEN WITH THE SEED: the statements are not yours to turn. If you find one false, say at which input.
  Laid BY PROGRAM, IN A SANDBOX (cutbox-rows.mjs): the forced cells as the released guide's own fill.sh prints them over the translation ddb80f1d1fd0ff16… (all of the seat's roots in one cut). By AI agents, Wed Nov 11 2026. No macro, syntax, notation, axiom, sorry.
-/
import Derived.Test.YtilbadmonidmhaaGreatChecked
import GoSem.Claim
import GoSem.ClaimJoined
import GoSem.ClaimMapViews
import Derived.JoinedTies
import Derived.KernelRfl
namespace Go.Proofs.YtilbadmonidmhaaGreat
/- THE CELL 'sum', in the pinned program and in every row, IS THE sha256 OF THE DUMP (.gsa) THAT YtilbadmonidmhaaGreatProg.lean LOADS. Nothing in Lean hashes anything: it is a label: what it is worth is what the hold of that sum in a sandbox is worth. -/
noncomputable def Tryz.pinned : Pinned := { name := "ytilbadmonidmhaagreat", sum := "ddb80f1d1fd0ff1699f4cb935352c9923e93b29d1ae7ff16ac976968ee269065", checked := Tryz.checked }
namespace Rows
def none {H : Type} : Left H := { results := [], args := [] }

/-- 'semaphorelaw9.FlankKeeps': WHATEVER THE INPUT: true; the input reads as it did. -/
def flankKeepsSpec : ChangeSpec := { name := "flankKeeps", fn := fun _ => fun
  | [d1, d2, d3] => { results := [.lit (.bool true)], args := [d1, d2, d3] }
  | _ => none }
def flankKeepsRow : OpenClaim := { program := "ytilbadmonidmhaagreat", sum := "ddb80f1d1fd0ff1699f4cb935352c9923e93b29d1ae7ff16ac976968ee269065", func := "semaphore/semaphorelaw9.FlankKeeps", spec := "flankKeeps", unfollowed := true, recurses := true, plainKeys := false, apart := false }
def FlankKeepsSaid : Prop := flankKeepsRow.holds Tryz.pinned (OpenSpec.ofChange flankKeepsSpec)

/-- ITS FALSE NEIGHBOUR: 'it returns false'. Refute it at one input. -/
def flankKeepsWrong : ChangeSpec := { name := "flankKeeps", fn := fun _ => fun
  | [d1, d2, d3] => { results := [.lit (.bool false)], args := [d1, d2, d3] }
  | _ => none }
def FlankKeepsWrongFalsely : Prop := flankKeepsRow.holds Tryz.pinned (OpenSpec.ofChange flankKeepsWrong)

/-- 'semaphorelaw14.LockPlays': WHATEVER THE INPUT: true; the input reads as it did. -/
def lockPlaysSpec : ChangeSpec := { name := "lockPlays", fn := fun _ => fun
  | [d1, d2] => { results := [.lit (.bool true)], args := [d1, d2] }
  | _ => none }
def lockPlaysRow : OpenClaim := { program := "ytilbadmonidmhaagreat", sum := "ddb80f1d1fd0ff1699f4cb935352c9923e93b29d1ae7ff16ac976968ee269065", func := "semaphore/semaphorelaw14.LockPlays", spec := "lockPlays", inPlace := ["maps.clone"], recurses := true, plainKeys := false, apart := false }
def LockPlaysSaid : Prop := lockPlaysRow.holds Tryz.pinned (OpenSpec.ofChange lockPlaysSpec)

/-- ITS FALSE NEIGHBOUR: 'it returns false'. Refute it at one input. -/
def lockPlaysWrong : ChangeSpec := { name := "lockPlays", fn := fun _ => fun
  | [d1, d2] => { results := [.lit (.bool false)], args := [d1, d2] }
  | _ => none }
def LockPlaysWrongFalsely : Prop := lockPlaysRow.holds Tryz.pinned (OpenSpec.ofChange lockPlaysWrong)

/-- 'semaphorelaw14.LockRoads': WHATEVER THE INPUT: true; the input reads as it did. -/
def lockRoadsSpec : ChangeSpec := { name := "lockRoads", fn := fun _ => fun
  | [d1, d2, d3] => { results := [.lit (.bool true)], args := [d1, d2, d3] }
  | _ => none }
def lockRoadsRow : OpenClaim := { program := "ytilbadmonidmhaagreat", sum := "ddb80f1d1fd0ff1699f4cb935352c9923e93b29d1ae7ff16ac976968ee269065", func := "semaphore/semaphorelaw14.LockRoads", spec := "lockRoads", inPlace := ["maps.clone"], recurses := true, plainKeys := false, apart := false }
def LockRoadsSaid : Prop := lockRoadsRow.holds Tryz.pinned (OpenSpec.ofChange lockRoadsSpec)

/-- ITS FALSE NEIGHBOUR: 'it returns false'. Refute it at one input. -/
def lockRoadsWrong : ChangeSpec := { name := "lockRoads", fn := fun _ => fun
  | [d1, d2, d3] => { results := [.lit (.bool false)], args := [d1, d2, d3] }
  | _ => none }
def LockRoadsWrongFalsely : Prop := lockRoadsRow.holds Tryz.pinned (OpenSpec.ofChange lockRoadsWrong)

/-- 'semaphorelaw12.ProofChecks': WHATEVER THE INPUT: true; the input reads as it did. -/
def proofChecksSpec : ChangeSpec := { name := "proofChecks", fn := fun _ => fun
  | [d] => { results := [.lit (.bool true)], args := [d] }
  | _ => none }
def proofChecksRow : OpenClaim := { program := "ytilbadmonidmhaagreat", sum := "ddb80f1d1fd0ff1699f4cb935352c9923e93b29d1ae7ff16ac976968ee269065", func := "semaphore/semaphorelaw12.ProofChecks", spec := "proofChecks", unfollowed := true, recurses := true, plainKeys := false, apart := false }
def ProofChecksSaid : Prop := proofChecksRow.holds Tryz.pinned (OpenSpec.ofChange proofChecksSpec)

/-- ITS FALSE NEIGHBOUR: 'it returns false'. Refute it at one input. -/
def proofChecksWrong : ChangeSpec := { name := "proofChecks", fn := fun _ => fun
  | [d] => { results := [.lit (.bool false)], args := [d] }
  | _ => none }
def ProofChecksWrongFalsely : Prop := proofChecksRow.holds Tryz.pinned (OpenSpec.ofChange proofChecksWrong)

/-- 'semaphorelaw12.ProofTurned': WHATEVER THE INPUT: true; the input reads as it did. -/
def proofTurnedSpec : ChangeSpec := { name := "proofTurned", fn := fun _ => fun
  | [d1, d2, d3, d4, d5] => { results := [.lit (.bool true)], args := [d1, d2, d3, d4, d5] }
  | _ => none }
def proofTurnedRow : OpenClaim := { program := "ytilbadmonidmhaagreat", sum := "ddb80f1d1fd0ff1699f4cb935352c9923e93b29d1ae7ff16ac976968ee269065", func := "semaphore/semaphorelaw12.ProofTurned", spec := "proofTurned", unfollowed := true, recurses := true, plainKeys := false, apart := false }
def ProofTurnedSaid : Prop := proofTurnedRow.holds Tryz.pinned (OpenSpec.ofChange proofTurnedSpec)

/-- ITS FALSE NEIGHBOUR: 'it returns false'. Refute it at one input. -/
def proofTurnedWrong : ChangeSpec := { name := "proofTurned", fn := fun _ => fun
  | [d1, d2, d3, d4, d5] => { results := [.lit (.bool false)], args := [d1, d2, d3, d4, d5] }
  | _ => none }
def ProofTurnedWrongFalsely : Prop := proofTurnedRow.holds Tryz.pinned (OpenSpec.ofChange proofTurnedWrong)

/-- 'semaphorelaw12.ProofGuards': WHATEVER THE INPUT: true; the input reads as it did. -/
def proofGuardsSpec : ChangeSpec := { name := "proofGuards", fn := fun _ => fun
  | [d1, d2, d3, d4, d5] => { results := [.lit (.bool true)], args := [d1, d2, d3, d4, d5] }
  | _ => none }
def proofGuardsRow : OpenClaim := { program := "ytilbadmonidmhaagreat", sum := "ddb80f1d1fd0ff1699f4cb935352c9923e93b29d1ae7ff16ac976968ee269065", func := "semaphore/semaphorelaw12.ProofGuards", spec := "proofGuards", unfollowed := true, recurses := true, plainKeys := false, apart := false }
def ProofGuardsSaid : Prop := proofGuardsRow.holds Tryz.pinned (OpenSpec.ofChange proofGuardsSpec)

/-- ITS FALSE NEIGHBOUR: 'it returns false'. Refute it at one input. -/
def proofGuardsWrong : ChangeSpec := { name := "proofGuards", fn := fun _ => fun
  | [d1, d2, d3, d4, d5] => { results := [.lit (.bool false)], args := [d1, d2, d3, d4, d5] }
  | _ => none }
def ProofGuardsWrongFalsely : Prop := proofGuardsRow.holds Tryz.pinned (OpenSpec.ofChange proofGuardsWrong)

/-- 'semaphorelaw12.ProofKeeps': WHATEVER THE INPUT: true; the input reads as it did. -/
def proofKeepsSpec : ChangeSpec := { name := "proofKeeps", fn := fun _ => fun
  | [d1, d2, d3, d4, d5, d6] => { results := [.lit (.bool true)], args := [d1, d2, d3, d4, d5, d6] }
  | _ => none }
def proofKeepsRow : OpenClaim := { program := "ytilbadmonidmhaagreat", sum := "ddb80f1d1fd0ff1699f4cb935352c9923e93b29d1ae7ff16ac976968ee269065", func := "semaphore/semaphorelaw12.ProofKeeps", spec := "proofKeeps", unfollowed := true, recurses := true, plainKeys := false, apart := false }
def ProofKeepsSaid : Prop := proofKeepsRow.holds Tryz.pinned (OpenSpec.ofChange proofKeepsSpec)

/-- ITS FALSE NEIGHBOUR: 'it returns false'. Refute it at one input. -/
def proofKeepsWrong : ChangeSpec := { name := "proofKeeps", fn := fun _ => fun
  | [d1, d2, d3, d4, d5, d6] => { results := [.lit (.bool false)], args := [d1, d2, d3, d4, d5, d6] }
  | _ => none }
def ProofKeepsWrongFalsely : Prop := proofKeepsRow.holds Tryz.pinned (OpenSpec.ofChange proofKeepsWrong)

/- THE SECOND FORM. 'bulk': how many values and letters a reading holds, each counted each time it is reached (what is shared counts as often as it is met; a slice's spare places count too). A statement '..UptoSaid' is the law's where the arguments, and the package variables that the reading takes, are together of bulk at most 1048576: NARROWER than '..Said'. Prove '..Said' where nothing that the law and all that it calls make is longer than what came in: it says more and counts as full. Else prove '..UptoSaid'. A law counts once. -/
mutual
def uptoBulk {H : Type} : DataW H → Nat
  | .lit (.string bytes) => bytes.length + 1
  | .lit _ => 1
  | .nil => 1
  | .ptr d => uptoBulk d + 1
  | .slice elems spare => uptoBulkAll elems + uptoBulkAll spare + 1
  | .agg parts => uptoBulkAll parts + 1
  | .iface _ d => uptoBulk d + 1
  | .map entries => uptoBulkEntries entries + 1
  | .held _ => 1
def uptoBulkAll {H : Type} : List (DataW H) → Nat
  | [] => 0
  | d :: r => uptoBulk d + uptoBulkAll r
def uptoBulkEntries {H : Type} : List (Lit × DataW H) → Nat
  | [] => 0
  | x :: r => uptoBulkEntry x + uptoBulkEntries r
def uptoBulkEntry {H : Type} : Lit × DataW H → Nat
  | (.string bytes, d) => bytes.length + uptoBulk d + 1
  | (_, d) => uptoBulk d + 1
 end
def uptoSmall : (H : Type) → List (DataW H) → Bool := fun _ ds => decide (uptoBulkAll ds ≤ 1048576)
def OpenSpec.upto (s : _root_.Go.ChangeSpec) : _root_.Go.OpenSpec := { _root_.Go.OpenSpec.ofChange s with cond := some uptoSmall }

/-- 'semaphorelaw9.FlankKeeps', WHERE WHAT IT READS IS OF BULK AT MOST 1048576: true; the input reads as it did. -/
def flankKeepsUptoRow : OpenClaim := { program := "ytilbadmonidmhaagreat", sum := "ddb80f1d1fd0ff1699f4cb935352c9923e93b29d1ae7ff16ac976968ee269065", func := "semaphore/semaphorelaw9.FlankKeeps", spec := "flankKeeps", unfollowed := true, recurses := true, plainKeys := false, apart := false, narrowed := true }
def FlankKeepsUptoSaid : Prop := flankKeepsUptoRow.holds Tryz.pinned (OpenSpec.upto flankKeepsSpec)

/-- 'semaphorelaw14.LockPlays', WHERE WHAT IT READS IS OF BULK AT MOST 1048576: true; the input reads as it did. -/
def lockPlaysUptoRow : OpenClaim := { program := "ytilbadmonidmhaagreat", sum := "ddb80f1d1fd0ff1699f4cb935352c9923e93b29d1ae7ff16ac976968ee269065", func := "semaphore/semaphorelaw14.LockPlays", spec := "lockPlays", inPlace := ["maps.clone"], recurses := true, plainKeys := false, apart := false, narrowed := true }
def LockPlaysUptoSaid : Prop := lockPlaysUptoRow.holds Tryz.pinned (OpenSpec.upto lockPlaysSpec)

/-- 'semaphorelaw14.LockRoads', WHERE WHAT IT READS IS OF BULK AT MOST 1048576: true; the input reads as it did. -/
def lockRoadsUptoRow : OpenClaim := { program := "ytilbadmonidmhaagreat", sum := "ddb80f1d1fd0ff1699f4cb935352c9923e93b29d1ae7ff16ac976968ee269065", func := "semaphore/semaphorelaw14.LockRoads", spec := "lockRoads", inPlace := ["maps.clone"], recurses := true, plainKeys := false, apart := false, narrowed := true }
def LockRoadsUptoSaid : Prop := lockRoadsUptoRow.holds Tryz.pinned (OpenSpec.upto lockRoadsSpec)

/-- 'semaphorelaw12.ProofChecks', WHERE WHAT IT READS IS OF BULK AT MOST 1048576: true; the input reads as it did. -/
def proofChecksUptoRow : OpenClaim := { program := "ytilbadmonidmhaagreat", sum := "ddb80f1d1fd0ff1699f4cb935352c9923e93b29d1ae7ff16ac976968ee269065", func := "semaphore/semaphorelaw12.ProofChecks", spec := "proofChecks", unfollowed := true, recurses := true, plainKeys := false, apart := false, narrowed := true }
def ProofChecksUptoSaid : Prop := proofChecksUptoRow.holds Tryz.pinned (OpenSpec.upto proofChecksSpec)

/-- 'semaphorelaw12.ProofTurned', WHERE WHAT IT READS IS OF BULK AT MOST 1048576: true; the input reads as it did. -/
def proofTurnedUptoRow : OpenClaim := { program := "ytilbadmonidmhaagreat", sum := "ddb80f1d1fd0ff1699f4cb935352c9923e93b29d1ae7ff16ac976968ee269065", func := "semaphore/semaphorelaw12.ProofTurned", spec := "proofTurned", unfollowed := true, recurses := true, plainKeys := false, apart := false, narrowed := true }
def ProofTurnedUptoSaid : Prop := proofTurnedUptoRow.holds Tryz.pinned (OpenSpec.upto proofTurnedSpec)

/-- 'semaphorelaw12.ProofGuards', WHERE WHAT IT READS IS OF BULK AT MOST 1048576: true; the input reads as it did. -/
def proofGuardsUptoRow : OpenClaim := { program := "ytilbadmonidmhaagreat", sum := "ddb80f1d1fd0ff1699f4cb935352c9923e93b29d1ae7ff16ac976968ee269065", func := "semaphore/semaphorelaw12.ProofGuards", spec := "proofGuards", unfollowed := true, recurses := true, plainKeys := false, apart := false, narrowed := true }
def ProofGuardsUptoSaid : Prop := proofGuardsUptoRow.holds Tryz.pinned (OpenSpec.upto proofGuardsSpec)

/-- 'semaphorelaw12.ProofKeeps', WHERE WHAT IT READS IS OF BULK AT MOST 1048576: true; the input reads as it did. -/
def proofKeepsUptoRow : OpenClaim := { program := "ytilbadmonidmhaagreat", sum := "ddb80f1d1fd0ff1699f4cb935352c9923e93b29d1ae7ff16ac976968ee269065", func := "semaphore/semaphorelaw12.ProofKeeps", spec := "proofKeeps", unfollowed := true, recurses := true, plainKeys := false, apart := false, narrowed := true }
def ProofKeepsUptoSaid : Prop := proofKeepsUptoRow.holds Tryz.pinned (OpenSpec.upto proofKeepsSpec)

end Rows
end Go.Proofs.YtilbadmonidmhaaGreat
