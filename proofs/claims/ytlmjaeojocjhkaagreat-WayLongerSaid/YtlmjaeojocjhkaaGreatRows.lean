/-
  No cell of these rows narrows 'for every input' (looked for: loops, veiled, ifaces, maps, wideKeys, modest, calm, conditions, laid).
  DERIVED. THE GIVEN ROWS OF THIS SEAT. 6 by the template 'for every input the law returns true; each argument reads behind the call as it read before'; 0 by the template 'total and deterministic' (their statements: YtlmjaeojocjhkaaGreatTotals.lean).
  GIVEN WITH THE SEED: the statements are not yours to turn. If you find one false, say at which input.
  Laid BY PROGRAM, IN A SANDBOX (cutbox-rows.mjs): the forced cells as the released guide's own fill.sh prints them over the translation 0783a350f31e7057… (all of the seat's roots in one cut). By AI agents, Wed Nov 11 2026. No macro, syntax, notation, axiom, sorry.
-/
import Derived.Test.YtlmjaeojocjhkaaGreatChecked
import GoSem.Claim
import GoSem.ClaimJoined
import GoSem.ClaimMapViews
import Derived.JoinedTies
import Derived.KernelRfl
namespace Go.Proofs.YtlmjaeojocjhkaaGreat
/- THE CELL 'sum', in the pinned program and in every row, IS THE sha256 OF THE DUMP (.gsa) THAT YtlmjaeojocjhkaaGreatProg.lean LOADS. Nothing in Lean hashes anything: it is a label: what it is worth is what the hold of that sum in a sandbox is worth. -/
noncomputable def Tryz.pinned : Pinned := { name := "ytlmjaeojocjhkaagreat", sum := "0783a350f31e7057381a17e48a1144f3c5bad8651007e08963347f6637ab62db", checked := Tryz.checked }
namespace Rows
def none {H : Type} : Left H := { results := [], args := [] }

/-- 'semaphorelaw31.WayStands': WHATEVER THE INPUT: true; the input reads as it did. -/
def wayStandsSpec : ChangeSpec := { name := "wayStands", fn := fun _ => fun
  | [d1, d2, d3, d4] => { results := [.lit (.bool true)], args := [d1, d2, d3, d4] }
  | _ => none }
def wayStandsRow : OpenClaim := { program := "ytlmjaeojocjhkaagreat", sum := "0783a350f31e7057381a17e48a1144f3c5bad8651007e08963347f6637ab62db", func := "semaphore/semaphorelaw31.WayStands", spec := "wayStands", unfollowed := true, recurses := true, plainKeys := false, apart := false }
def WayStandsSaid : Prop := wayStandsRow.holds Tryz.pinned (OpenSpec.ofChange wayStandsSpec)

/-- ITS FALSE NEIGHBOUR: 'it returns false'. Refute it at one input. -/
def wayStandsWrong : ChangeSpec := { name := "wayStands", fn := fun _ => fun
  | [d1, d2, d3, d4] => { results := [.lit (.bool false)], args := [d1, d2, d3, d4] }
  | _ => none }
def WayStandsWrongFalsely : Prop := wayStandsRow.holds Tryz.pinned (OpenSpec.ofChange wayStandsWrong)

/-- 'semaphorelaw31.WayRoads': WHATEVER THE INPUT: true; the input reads as it did. -/
def wayRoadsSpec : ChangeSpec := { name := "wayRoads", fn := fun _ => fun
  | [d1, d2, d3, d4] => { results := [.lit (.bool true)], args := [d1, d2, d3, d4] }
  | _ => none }
def wayRoadsRow : OpenClaim := { program := "ytlmjaeojocjhkaagreat", sum := "0783a350f31e7057381a17e48a1144f3c5bad8651007e08963347f6637ab62db", func := "semaphore/semaphorelaw31.WayRoads", spec := "wayRoads", unfollowed := true, recurses := true, plainKeys := false, apart := false }
def WayRoadsSaid : Prop := wayRoadsRow.holds Tryz.pinned (OpenSpec.ofChange wayRoadsSpec)

/-- ITS FALSE NEIGHBOUR: 'it returns false'. Refute it at one input. -/
def wayRoadsWrong : ChangeSpec := { name := "wayRoads", fn := fun _ => fun
  | [d1, d2, d3, d4] => { results := [.lit (.bool false)], args := [d1, d2, d3, d4] }
  | _ => none }
def WayRoadsWrongFalsely : Prop := wayRoadsRow.holds Tryz.pinned (OpenSpec.ofChange wayRoadsWrong)

/-- 'semaphorelaw31.WayChecks': WHATEVER THE INPUT: true; the input reads as it did. -/
def wayChecksSpec : ChangeSpec := { name := "wayChecks", fn := fun _ => fun
  | [d1, d2] => { results := [.lit (.bool true)], args := [d1, d2] }
  | _ => none }
def wayChecksRow : OpenClaim := { program := "ytlmjaeojocjhkaagreat", sum := "0783a350f31e7057381a17e48a1144f3c5bad8651007e08963347f6637ab62db", func := "semaphore/semaphorelaw31.WayChecks", spec := "wayChecks", unfollowed := true, recurses := true, plainKeys := false, apart := false }
def WayChecksSaid : Prop := wayChecksRow.holds Tryz.pinned (OpenSpec.ofChange wayChecksSpec)

/-- ITS FALSE NEIGHBOUR: 'it returns false'. Refute it at one input. -/
def wayChecksWrong : ChangeSpec := { name := "wayChecks", fn := fun _ => fun
  | [d1, d2] => { results := [.lit (.bool false)], args := [d1, d2] }
  | _ => none }
def WayChecksWrongFalsely : Prop := wayChecksRow.holds Tryz.pinned (OpenSpec.ofChange wayChecksWrong)

/-- 'semaphorelaw31.WayLeads': WHATEVER THE INPUT: true; the input reads as it did. -/
def wayLeadsSpec : ChangeSpec := { name := "wayLeads", fn := fun _ => fun
  | [d1, d2, d3, d4] => { results := [.lit (.bool true)], args := [d1, d2, d3, d4] }
  | _ => none }
def wayLeadsRow : OpenClaim := { program := "ytlmjaeojocjhkaagreat", sum := "0783a350f31e7057381a17e48a1144f3c5bad8651007e08963347f6637ab62db", func := "semaphore/semaphorelaw31.WayLeads", spec := "wayLeads", unfollowed := true, recurses := true, plainKeys := false, apart := false }
def WayLeadsSaid : Prop := wayLeadsRow.holds Tryz.pinned (OpenSpec.ofChange wayLeadsSpec)

/-- ITS FALSE NEIGHBOUR: 'it returns false'. Refute it at one input. -/
def wayLeadsWrong : ChangeSpec := { name := "wayLeads", fn := fun _ => fun
  | [d1, d2, d3, d4] => { results := [.lit (.bool false)], args := [d1, d2, d3, d4] }
  | _ => none }
def WayLeadsWrongFalsely : Prop := wayLeadsRow.holds Tryz.pinned (OpenSpec.ofChange wayLeadsWrong)

/-- 'semaphorelaw31.WayRest': WHATEVER THE INPUT: true; the input reads as it did. -/
def wayRestSpec : ChangeSpec := { name := "wayRest", fn := fun _ => fun
  | [d1, d2, d3, d4] => { results := [.lit (.bool true)], args := [d1, d2, d3, d4] }
  | _ => none }
def wayRestRow : OpenClaim := { program := "ytlmjaeojocjhkaagreat", sum := "0783a350f31e7057381a17e48a1144f3c5bad8651007e08963347f6637ab62db", func := "semaphore/semaphorelaw31.WayRest", spec := "wayRest", unfollowed := true, recurses := true, plainKeys := false, apart := false }
def WayRestSaid : Prop := wayRestRow.holds Tryz.pinned (OpenSpec.ofChange wayRestSpec)

/-- ITS FALSE NEIGHBOUR: 'it returns false'. Refute it at one input. -/
def wayRestWrong : ChangeSpec := { name := "wayRest", fn := fun _ => fun
  | [d1, d2, d3, d4] => { results := [.lit (.bool false)], args := [d1, d2, d3, d4] }
  | _ => none }
def WayRestWrongFalsely : Prop := wayRestRow.holds Tryz.pinned (OpenSpec.ofChange wayRestWrong)

/-- 'semaphorelaw31.WayLonger': WHATEVER THE INPUT: true; the input reads as it did. -/
def wayLongerSpec : ChangeSpec := { name := "wayLonger", fn := fun _ => fun
  | [d1, d2, d3, d4, d5] => { results := [.lit (.bool true)], args := [d1, d2, d3, d4, d5] }
  | _ => none }
def wayLongerRow : OpenClaim := { program := "ytlmjaeojocjhkaagreat", sum := "0783a350f31e7057381a17e48a1144f3c5bad8651007e08963347f6637ab62db", func := "semaphore/semaphorelaw31.WayLonger", spec := "wayLonger", unfollowed := true, recurses := true, plainKeys := false, apart := false }
def WayLongerSaid : Prop := wayLongerRow.holds Tryz.pinned (OpenSpec.ofChange wayLongerSpec)

/-- ITS FALSE NEIGHBOUR: 'it returns false'. Refute it at one input. -/
def wayLongerWrong : ChangeSpec := { name := "wayLonger", fn := fun _ => fun
  | [d1, d2, d3, d4, d5] => { results := [.lit (.bool false)], args := [d1, d2, d3, d4, d5] }
  | _ => none }
def WayLongerWrongFalsely : Prop := wayLongerRow.holds Tryz.pinned (OpenSpec.ofChange wayLongerWrong)

/- THE SECOND FORM. 'bulk': how many values and letters a reading holds, each counted each time it is reached (what is shared counts as often as it is met; a slice's spare places count too). A statement '..UptoSaid' is the law's where the arguments, and the package variables that the reading takes, are together of bulk at most 1048576: NARROWER than '..Said'. Prove '..Said' where nothing that the law and all that it calls make is longer than what came in: it says more and counts as full. Else prove '..UptoSaid'. A law counts once. -/
mutual
def uptoBulk {H : Type} : DataW H → Nat
  | .lit (.string bytes) => bytes.length + 1
  | .lit _ => 1
  | .nil => 1
  | .ptr d => uptoBulk d + 1
  | .slice elems spare => uptoBulkAll elems + uptoBulkAll spare + 1
  | .agg parts => uptoBulkAll parts + 1
  | .iface _ d => uptoBulk d + 1
  | .map entries => uptoBulkEntries entries + 1
  | .held _ => 1
def uptoBulkAll {H : Type} : List (DataW H) → Nat
  | [] => 0
  | d :: r => uptoBulk d + uptoBulkAll r
def uptoBulkEntries {H : Type} : List (Lit × DataW H) → Nat
  | [] => 0
  | x :: r => uptoBulkEntry x + uptoBulkEntries r
def uptoBulkEntry {H : Type} : Lit × DataW H → Nat
  | (.string bytes, d) => bytes.length + uptoBulk d + 1
  | (_, d) => uptoBulk d + 1
 end
def uptoSmall : (H : Type) → List (DataW H) → Bool := fun _ ds => decide (uptoBulkAll ds ≤ 1048576)
def OpenSpec.upto (s : _root_.Go.ChangeSpec) : _root_.Go.OpenSpec := { _root_.Go.OpenSpec.ofChange s with cond := some uptoSmall }

/-- 'semaphorelaw31.WayStands', WHERE WHAT IT READS IS OF BULK AT MOST 1048576: true; the input reads as it did. -/
def wayStandsUptoRow : OpenClaim := { program := "ytlmjaeojocjhkaagreat", sum := "0783a350f31e7057381a17e48a1144f3c5bad8651007e08963347f6637ab62db", func := "semaphore/semaphorelaw31.WayStands", spec := "wayStands", unfollowed := true, recurses := true, plainKeys := false, apart := false, narrowed := true }
def WayStandsUptoSaid : Prop := wayStandsUptoRow.holds Tryz.pinned (OpenSpec.upto wayStandsSpec)

/-- 'semaphorelaw31.WayRoads', WHERE WHAT IT READS IS OF BULK AT MOST 1048576: true; the input reads as it did. -/
def wayRoadsUptoRow : OpenClaim := { program := "ytlmjaeojocjhkaagreat", sum := "0783a350f31e7057381a17e48a1144f3c5bad8651007e08963347f6637ab62db", func := "semaphore/semaphorelaw31.WayRoads", spec := "wayRoads", unfollowed := true, recurses := true, plainKeys := false, apart := false, narrowed := true }
def WayRoadsUptoSaid : Prop := wayRoadsUptoRow.holds Tryz.pinned (OpenSpec.upto wayRoadsSpec)

/-- 'semaphorelaw31.WayChecks', WHERE WHAT IT READS IS OF BULK AT MOST 1048576: true; the input reads as it did. -/
def wayChecksUptoRow : OpenClaim := { program := "ytlmjaeojocjhkaagreat", sum := "0783a350f31e7057381a17e48a1144f3c5bad8651007e08963347f6637ab62db", func := "semaphore/semaphorelaw31.WayChecks", spec := "wayChecks", unfollowed := true, recurses := true, plainKeys := false, apart := false, narrowed := true }
def WayChecksUptoSaid : Prop := wayChecksUptoRow.holds Tryz.pinned (OpenSpec.upto wayChecksSpec)

/-- 'semaphorelaw31.WayLeads', WHERE WHAT IT READS IS OF BULK AT MOST 1048576: true; the input reads as it did. -/
def wayLeadsUptoRow : OpenClaim := { program := "ytlmjaeojocjhkaagreat", sum := "0783a350f31e7057381a17e48a1144f3c5bad8651007e08963347f6637ab62db", func := "semaphore/semaphorelaw31.WayLeads", spec := "wayLeads", unfollowed := true, recurses := true, plainKeys := false, apart := false, narrowed := true }
def WayLeadsUptoSaid : Prop := wayLeadsUptoRow.holds Tryz.pinned (OpenSpec.upto wayLeadsSpec)

/-- 'semaphorelaw31.WayRest', WHERE WHAT IT READS IS OF BULK AT MOST 1048576: true; the input reads as it did. -/
def wayRestUptoRow : OpenClaim := { program := "ytlmjaeojocjhkaagreat", sum := "0783a350f31e7057381a17e48a1144f3c5bad8651007e08963347f6637ab62db", func := "semaphore/semaphorelaw31.WayRest", spec := "wayRest", unfollowed := true, recurses := true, plainKeys := false, apart := false, narrowed := true }
def WayRestUptoSaid : Prop := wayRestUptoRow.holds Tryz.pinned (OpenSpec.upto wayRestSpec)

/-- 'semaphorelaw31.WayLonger', WHERE WHAT IT READS IS OF BULK AT MOST 1048576: true; the input reads as it did. -/
def wayLongerUptoRow : OpenClaim := { program := "ytlmjaeojocjhkaagreat", sum := "0783a350f31e7057381a17e48a1144f3c5bad8651007e08963347f6637ab62db", func := "semaphore/semaphorelaw31.WayLonger", spec := "wayLonger", unfollowed := true, recurses := true, plainKeys := false, apart := false, narrowed := true }
def WayLongerUptoSaid : Prop := wayLongerUptoRow.holds Tryz.pinned (OpenSpec.upto wayLongerSpec)

end Rows
end Go.Proofs.YtlmjaeojocjhkaaGreat
