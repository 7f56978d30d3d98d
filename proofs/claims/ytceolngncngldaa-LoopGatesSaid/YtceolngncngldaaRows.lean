/-
  No cell of these rows narrows 'for every input' (looked for: loops, veiled, ifaces, maps, wideKeys, modest, calm, conditions, laid).
  DERIVED. THE GIVEN ROWS OF THIS SEAT. 4 by the template 'for every input the law returns true; each argument reads behind the call as it read before'; 0 by the template 'total and deterministic' (their statements: YtceolngncngldaaTotals.lean).
  GIVEN WITH THE SEED: the statements are not yours to turn. If you find one false, say at which input.
  Laid BY PROGRAM, IN A SANDBOX (cutbox-rows.mjs): the forced cells as the released guide's own fill.sh prints them over the translation 0ace5e9447bc95c0… (all of the seat's roots in one cut). By AI agents, Wed Nov 11 2026. No macro, syntax, notation, axiom, sorry.
-/
import Derived.Test.YtceolngncngldaaChecked
import GoSem.Claim
import GoSem.ClaimJoined
import GoSem.ClaimMapViews
import Derived.JoinedTies
import Derived.KernelRfl
namespace Go.Proofs.Ytceolngncngldaa
/- THE CELL 'sum', in the pinned program and in every row, IS THE sha256 OF THE DUMP (.gsa) THAT YtceolngncngldaaProg.lean LOADS. Nothing in Lean hashes anything: it is a label: what it is worth is what the hold of that sum in a sandbox is worth. -/
noncomputable def Try.pinned : Pinned := { name := "ytceolngncngldaa", sum := "0ace5e9447bc95c0e84c3175f16e1ca516c99061c27663cdaae5dbaab6a2546e", checked := Try.checked }
namespace Rows
def none {H : Type} : Left H := { results := [], args := [] }

/-- 'semaphorelaw24.LoopForms': WHATEVER THE INPUT: true; the input reads as it did. -/
def loopFormsSpec : ChangeSpec := { name := "loopForms", fn := fun _ => fun
  | [d1, d2, d3, d4, d5, d6, d7] => { results := [.lit (.bool true)], args := [d1, d2, d3, d4, d5, d6, d7] }
  | _ => none }
def loopFormsRow : OpenClaim := { program := "ytceolngncngldaa", sum := "0ace5e9447bc95c0e84c3175f16e1ca516c99061c27663cdaae5dbaab6a2546e", func := "semaphore/semaphorelaw24.LoopForms", spec := "loopForms", unfollowed := true, recurses := true, plainKeys := false, apart := false }
def LoopFormsSaid : Prop := loopFormsRow.holds Try.pinned (OpenSpec.ofChange loopFormsSpec)

/-- ITS FALSE NEIGHBOUR: 'it returns false'. Refute it at one input. -/
def loopFormsWrong : ChangeSpec := { name := "loopForms", fn := fun _ => fun
  | [d1, d2, d3, d4, d5, d6, d7] => { results := [.lit (.bool false)], args := [d1, d2, d3, d4, d5, d6, d7] }
  | _ => none }
def LoopFormsWrongFalsely : Prop := loopFormsRow.holds Try.pinned (OpenSpec.ofChange loopFormsWrong)

/-- 'semaphorelaw24.LoopStops': WHATEVER THE INPUT: true; the input reads as it did. -/
def loopStopsSpec : ChangeSpec := { name := "loopStops", fn := fun _ => fun
  | [d1, d2, d3, d4, d5] => { results := [.lit (.bool true)], args := [d1, d2, d3, d4, d5] }
  | _ => none }
def loopStopsRow : OpenClaim := { program := "ytceolngncngldaa", sum := "0ace5e9447bc95c0e84c3175f16e1ca516c99061c27663cdaae5dbaab6a2546e", func := "semaphore/semaphorelaw24.LoopStops", spec := "loopStops", unfollowed := true, recurses := true, plainKeys := false, apart := false }
def LoopStopsSaid : Prop := loopStopsRow.holds Try.pinned (OpenSpec.ofChange loopStopsSpec)

/-- ITS FALSE NEIGHBOUR: 'it returns false'. Refute it at one input. -/
def loopStopsWrong : ChangeSpec := { name := "loopStops", fn := fun _ => fun
  | [d1, d2, d3, d4, d5] => { results := [.lit (.bool false)], args := [d1, d2, d3, d4, d5] }
  | _ => none }
def LoopStopsWrongFalsely : Prop := loopStopsRow.holds Try.pinned (OpenSpec.ofChange loopStopsWrong)

/-- 'semaphorelaw24.LoopNears': WHATEVER THE INPUT: true; the input reads as it did. -/
def loopNearsSpec : ChangeSpec := { name := "loopNears", fn := fun _ => fun
  | [d1, d2, d3, d4, d5, d6] => { results := [.lit (.bool true)], args := [d1, d2, d3, d4, d5, d6] }
  | _ => none }
def loopNearsRow : OpenClaim := { program := "ytceolngncngldaa", sum := "0ace5e9447bc95c0e84c3175f16e1ca516c99061c27663cdaae5dbaab6a2546e", func := "semaphore/semaphorelaw24.LoopNears", spec := "loopNears", unfollowed := true, recurses := true, plainKeys := false, apart := false }
def LoopNearsSaid : Prop := loopNearsRow.holds Try.pinned (OpenSpec.ofChange loopNearsSpec)

/-- ITS FALSE NEIGHBOUR: 'it returns false'. Refute it at one input. -/
def loopNearsWrong : ChangeSpec := { name := "loopNears", fn := fun _ => fun
  | [d1, d2, d3, d4, d5, d6] => { results := [.lit (.bool false)], args := [d1, d2, d3, d4, d5, d6] }
  | _ => none }
def LoopNearsWrongFalsely : Prop := loopNearsRow.holds Try.pinned (OpenSpec.ofChange loopNearsWrong)

/-- 'semaphorelaw24.LoopGates': WHATEVER THE INPUT: true; the input reads as it did. -/
def loopGatesSpec : ChangeSpec := { name := "loopGates", fn := fun _ => fun
  | [d1, d2, d3, d4, d5, d6, d7] => { results := [.lit (.bool true)], args := [d1, d2, d3, d4, d5, d6, d7] }
  | _ => none }
def loopGatesRow : OpenClaim := { program := "ytceolngncngldaa", sum := "0ace5e9447bc95c0e84c3175f16e1ca516c99061c27663cdaae5dbaab6a2546e", func := "semaphore/semaphorelaw24.LoopGates", spec := "loopGates", unfollowed := true, recurses := true, plainKeys := false, apart := false }
def LoopGatesSaid : Prop := loopGatesRow.holds Try.pinned (OpenSpec.ofChange loopGatesSpec)

/-- ITS FALSE NEIGHBOUR: 'it returns false'. Refute it at one input. -/
def loopGatesWrong : ChangeSpec := { name := "loopGates", fn := fun _ => fun
  | [d1, d2, d3, d4, d5, d6, d7] => { results := [.lit (.bool false)], args := [d1, d2, d3, d4, d5, d6, d7] }
  | _ => none }
def LoopGatesWrongFalsely : Prop := loopGatesRow.holds Try.pinned (OpenSpec.ofChange loopGatesWrong)

/- THE SECOND FORM. 'bulk': how many values and letters a reading holds, each counted each time it is reached (what is shared counts as often as it is met; a slice's spare places count too). A statement '..UptoSaid' is the law's where the arguments, and the package variables that the reading takes, are together of bulk at most 1048576: NARROWER than '..Said'. Prove '..Said' where nothing that the law and all that it calls make is longer than what came in: it says more and counts as full. Else prove '..UptoSaid'. A law counts once. -/
mutual
def uptoBulk {H : Type} : DataW H → Nat
  | .lit (.string bytes) => bytes.length + 1
  | .lit _ => 1
  | .nil => 1
  | .ptr d => uptoBulk d + 1
  | .slice elems spare => uptoBulkAll elems + uptoBulkAll spare + 1
  | .agg parts => uptoBulkAll parts + 1
  | .iface _ d => uptoBulk d + 1
  | .map entries => uptoBulkEntries entries + 1
  | .held _ => 1
def uptoBulkAll {H : Type} : List (DataW H) → Nat
  | [] => 0
  | d :: r => uptoBulk d + uptoBulkAll r
def uptoBulkEntries {H : Type} : List (Lit × DataW H) → Nat
  | [] => 0
  | x :: r => uptoBulkEntry x + uptoBulkEntries r
def uptoBulkEntry {H : Type} : Lit × DataW H → Nat
  | (.string bytes, d) => bytes.length + uptoBulk d + 1
  | (_, d) => uptoBulk d + 1
 end
def uptoSmall : (H : Type) → List (DataW H) → Bool := fun _ ds => decide (uptoBulkAll ds ≤ 1048576)
def OpenSpec.upto (s : _root_.Go.ChangeSpec) : _root_.Go.OpenSpec := { _root_.Go.OpenSpec.ofChange s with cond := some uptoSmall }

/-- 'semaphorelaw24.LoopForms', WHERE WHAT IT READS IS OF BULK AT MOST 1048576: true; the input reads as it did. -/
def loopFormsUptoRow : OpenClaim := { program := "ytceolngncngldaa", sum := "0ace5e9447bc95c0e84c3175f16e1ca516c99061c27663cdaae5dbaab6a2546e", func := "semaphore/semaphorelaw24.LoopForms", spec := "loopForms", unfollowed := true, recurses := true, plainKeys := false, apart := false, narrowed := true }
def LoopFormsUptoSaid : Prop := loopFormsUptoRow.holds Try.pinned (OpenSpec.upto loopFormsSpec)

/-- 'semaphorelaw24.LoopStops', WHERE WHAT IT READS IS OF BULK AT MOST 1048576: true; the input reads as it did. -/
def loopStopsUptoRow : OpenClaim := { program := "ytceolngncngldaa", sum := "0ace5e9447bc95c0e84c3175f16e1ca516c99061c27663cdaae5dbaab6a2546e", func := "semaphore/semaphorelaw24.LoopStops", spec := "loopStops", unfollowed := true, recurses := true, plainKeys := false, apart := false, narrowed := true }
def LoopStopsUptoSaid : Prop := loopStopsUptoRow.holds Try.pinned (OpenSpec.upto loopStopsSpec)

/-- 'semaphorelaw24.LoopNears', WHERE WHAT IT READS IS OF BULK AT MOST 1048576: true; the input reads as it did. -/
def loopNearsUptoRow : OpenClaim := { program := "ytceolngncngldaa", sum := "0ace5e9447bc95c0e84c3175f16e1ca516c99061c27663cdaae5dbaab6a2546e", func := "semaphore/semaphorelaw24.LoopNears", spec := "loopNears", unfollowed := true, recurses := true, plainKeys := false, apart := false, narrowed := true }
def LoopNearsUptoSaid : Prop := loopNearsUptoRow.holds Try.pinned (OpenSpec.upto loopNearsSpec)

/-- 'semaphorelaw24.LoopGates', WHERE WHAT IT READS IS OF BULK AT MOST 1048576: true; the input reads as it did. -/
def loopGatesUptoRow : OpenClaim := { program := "ytceolngncngldaa", sum := "0ace5e9447bc95c0e84c3175f16e1ca516c99061c27663cdaae5dbaab6a2546e", func := "semaphore/semaphorelaw24.LoopGates", spec := "loopGates", unfollowed := true, recurses := true, plainKeys := false, apart := false, narrowed := true }
def LoopGatesUptoSaid : Prop := loopGatesUptoRow.holds Try.pinned (OpenSpec.upto loopGatesSpec)

end Rows
end Go.Proofs.Ytceolngncngldaa
