/-
  No cell of these rows narrows 'for every input' (looked for: loops, veiled, ifaces, maps, wideKeys, modest, calm, conditions, laid).
  DERIVED. THE GIVEN ROWS OF THIS SEAT. 11 by the template 'for every input the law returns true; each argument reads behind the call as it read before'; 0 by the template 'total and deterministic' (their statements: YtoofmfiallkmbaaTotals.lean).
  GIVEN WITH THE SEED: the statements are not yours to turn. If you find one false, say at which input.
  Laid BY PROGRAM, IN A SANDBOX (cutbox-rows.mjs): the forced cells as the released guide's own fill.sh prints them over the translation ae70e196ef96a68f… (all of the seat's roots in one cut). By AI agents, Wed Nov 11 2026. No macro, syntax, notation, axiom, sorry.
-/
import Derived.Test.YtoofmfiallkmbaaChecked
import GoSem.Claim
import GoSem.ClaimJoined
import GoSem.ClaimMapViews
import Derived.JoinedTies
import Derived.KernelRfl
namespace Go.Proofs.Ytoofmfiallkmbaa
/- THE CELL 'sum', in the pinned program and in every row, IS THE sha256 OF THE DUMP (.gsa) THAT YtoofmfiallkmbaaProg.lean LOADS. Nothing in Lean hashes anything: it is a label: what it is worth is what the hold of that sum in a sandbox is worth. -/
noncomputable def Try.pinned : Pinned := { name := "ytoofmfiallkmbaa", sum := "ae70e196ef96a68f675dd682c37bbe578e6581e95e2bb1dd29c0f100cc4b1681", checked := Try.checked }
namespace Rows
def none {H : Type} : Left H := { results := [], args := [] }

/-- 'semaphorelaw9.FlankOfs': WHATEVER THE INPUT: true; the input reads as it did. -/
def flankOfsSpec : ChangeSpec := { name := "flankOfs", fn := fun _ => fun
  | [d1, d2] => { results := [.lit (.bool true)], args := [d1, d2] }
  | _ => none }
def flankOfsRow : OpenClaim := { program := "ytoofmfiallkmbaa", sum := "ae70e196ef96a68f675dd682c37bbe578e6581e95e2bb1dd29c0f100cc4b1681", func := "semaphore/semaphorelaw9.FlankOfs", spec := "flankOfs", unfollowed := true, recurses := true, plainKeys := false, apart := false }
def FlankOfsSaid : Prop := flankOfsRow.holds Try.pinned (OpenSpec.ofChange flankOfsSpec)

/-- ITS FALSE NEIGHBOUR: 'it returns false'. Refute it at one input. -/
def flankOfsWrong : ChangeSpec := { name := "flankOfs", fn := fun _ => fun
  | [d1, d2] => { results := [.lit (.bool false)], args := [d1, d2] }
  | _ => none }
def FlankOfsWrongFalsely : Prop := flankOfsRow.holds Try.pinned (OpenSpec.ofChange flankOfsWrong)

/-- 'semaphorelaw9.FlankReady': WHATEVER THE INPUT: true; the input reads as it did. -/
def flankReadySpec : ChangeSpec := { name := "flankReady", fn := fun _ => fun
  | [d1, d2, d3] => { results := [.lit (.bool true)], args := [d1, d2, d3] }
  | _ => none }
def flankReadyRow : OpenClaim := { program := "ytoofmfiallkmbaa", sum := "ae70e196ef96a68f675dd682c37bbe578e6581e95e2bb1dd29c0f100cc4b1681", func := "semaphore/semaphorelaw9.FlankReady", spec := "flankReady", unfollowed := true, recurses := true, plainKeys := false, apart := false }
def FlankReadySaid : Prop := flankReadyRow.holds Try.pinned (OpenSpec.ofChange flankReadySpec)

/-- ITS FALSE NEIGHBOUR: 'it returns false'. Refute it at one input. -/
def flankReadyWrong : ChangeSpec := { name := "flankReady", fn := fun _ => fun
  | [d1, d2, d3] => { results := [.lit (.bool false)], args := [d1, d2, d3] }
  | _ => none }
def FlankReadyWrongFalsely : Prop := flankReadyRow.holds Try.pinned (OpenSpec.ofChange flankReadyWrong)

/-- 'semaphorelaw9.FlankApart': WHATEVER THE INPUT: true; the input reads as it did. -/
def flankApartSpec : ChangeSpec := { name := "flankApart", fn := fun _ => fun
  | [d1, d2] => { results := [.lit (.bool true)], args := [d1, d2] }
  | _ => none }
def flankApartRow : OpenClaim := { program := "ytoofmfiallkmbaa", sum := "ae70e196ef96a68f675dd682c37bbe578e6581e95e2bb1dd29c0f100cc4b1681", func := "semaphore/semaphorelaw9.FlankApart", spec := "flankApart", unfollowed := true, recurses := true, plainKeys := false, apart := false }
def FlankApartSaid : Prop := flankApartRow.holds Try.pinned (OpenSpec.ofChange flankApartSpec)

/-- ITS FALSE NEIGHBOUR: 'it returns false'. Refute it at one input. -/
def flankApartWrong : ChangeSpec := { name := "flankApart", fn := fun _ => fun
  | [d1, d2] => { results := [.lit (.bool false)], args := [d1, d2] }
  | _ => none }
def FlankApartWrongFalsely : Prop := flankApartRow.holds Try.pinned (OpenSpec.ofChange flankApartWrong)

/-- 'semaphorelaw9.FlankAgain': WHATEVER THE INPUT: true; the input reads as it did. -/
def flankAgainSpec : ChangeSpec := { name := "flankAgain", fn := fun _ => fun
  | [d1, d2, d3, d4, d5, d6] => { results := [.lit (.bool true)], args := [d1, d2, d3, d4, d5, d6] }
  | _ => none }
def flankAgainRow : OpenClaim := { program := "ytoofmfiallkmbaa", sum := "ae70e196ef96a68f675dd682c37bbe578e6581e95e2bb1dd29c0f100cc4b1681", func := "semaphore/semaphorelaw9.FlankAgain", spec := "flankAgain", unfollowed := true, recurses := true, plainKeys := false, apart := false }
def FlankAgainSaid : Prop := flankAgainRow.holds Try.pinned (OpenSpec.ofChange flankAgainSpec)

/-- ITS FALSE NEIGHBOUR: 'it returns false'. Refute it at one input. -/
def flankAgainWrong : ChangeSpec := { name := "flankAgain", fn := fun _ => fun
  | [d1, d2, d3, d4, d5, d6] => { results := [.lit (.bool false)], args := [d1, d2, d3, d4, d5, d6] }
  | _ => none }
def FlankAgainWrongFalsely : Prop := flankAgainRow.holds Try.pinned (OpenSpec.ofChange flankAgainWrong)

/-- 'semaphorelaw9.FlankNone': WHATEVER THE INPUT: true; the input reads as it did. -/
def flankNoneSpec : ChangeSpec := { name := "flankNone", fn := fun _ => fun
  | [d1, d2] => { results := [.lit (.bool true)], args := [d1, d2] }
  | _ => none }
def flankNoneRow : OpenClaim := { program := "ytoofmfiallkmbaa", sum := "ae70e196ef96a68f675dd682c37bbe578e6581e95e2bb1dd29c0f100cc4b1681", func := "semaphore/semaphorelaw9.FlankNone", spec := "flankNone", unfollowed := true, recurses := true, plainKeys := false, apart := false }
def FlankNoneSaid : Prop := flankNoneRow.holds Try.pinned (OpenSpec.ofChange flankNoneSpec)

/-- ITS FALSE NEIGHBOUR: 'it returns false'. Refute it at one input. -/
def flankNoneWrong : ChangeSpec := { name := "flankNone", fn := fun _ => fun
  | [d1, d2] => { results := [.lit (.bool false)], args := [d1, d2] }
  | _ => none }
def FlankNoneWrongFalsely : Prop := flankNoneRow.holds Try.pinned (OpenSpec.ofChange flankNoneWrong)

/-- 'semaphorelaw9.FlankOne': WHATEVER THE INPUT: true; the input reads as it did. -/
def flankOneSpec : ChangeSpec := { name := "flankOne", fn := fun _ => fun
  | [d1, d2, d3] => { results := [.lit (.bool true)], args := [d1, d2, d3] }
  | _ => none }
def flankOneRow : OpenClaim := { program := "ytoofmfiallkmbaa", sum := "ae70e196ef96a68f675dd682c37bbe578e6581e95e2bb1dd29c0f100cc4b1681", func := "semaphore/semaphorelaw9.FlankOne", spec := "flankOne", unfollowed := true, recurses := true, plainKeys := false, apart := false }
def FlankOneSaid : Prop := flankOneRow.holds Try.pinned (OpenSpec.ofChange flankOneSpec)

/-- ITS FALSE NEIGHBOUR: 'it returns false'. Refute it at one input. -/
def flankOneWrong : ChangeSpec := { name := "flankOne", fn := fun _ => fun
  | [d1, d2, d3] => { results := [.lit (.bool false)], args := [d1, d2, d3] }
  | _ => none }
def FlankOneWrongFalsely : Prop := flankOneRow.holds Try.pinned (OpenSpec.ofChange flankOneWrong)

/-- 'semaphorelaw8.SidePorts': WHATEVER THE INPUT: true; the input reads as it did. -/
def sidePortsSpec : ChangeSpec := { name := "sidePorts", fn := fun _ => fun
  | [d1, d2, d3] => { results := [.lit (.bool true)], args := [d1, d2, d3] }
  | _ => none }
def sidePortsRow : OpenClaim := { program := "ytoofmfiallkmbaa", sum := "ae70e196ef96a68f675dd682c37bbe578e6581e95e2bb1dd29c0f100cc4b1681", func := "semaphore/semaphorelaw8.SidePorts", spec := "sidePorts", unfollowed := true, recurses := true, plainKeys := false, apart := false }
def SidePortsSaid : Prop := sidePortsRow.holds Try.pinned (OpenSpec.ofChange sidePortsSpec)

/-- ITS FALSE NEIGHBOUR: 'it returns false'. Refute it at one input. -/
def sidePortsWrong : ChangeSpec := { name := "sidePorts", fn := fun _ => fun
  | [d1, d2, d3] => { results := [.lit (.bool false)], args := [d1, d2, d3] }
  | _ => none }
def SidePortsWrongFalsely : Prop := sidePortsRow.holds Try.pinned (OpenSpec.ofChange sidePortsWrong)

/-- 'semaphorelaw8.SideApart': WHATEVER THE INPUT: true; the input reads as it did. -/
def sideApartSpec : ChangeSpec := { name := "sideApart", fn := fun _ => fun
  | [d1, d2] => { results := [.lit (.bool true)], args := [d1, d2] }
  | _ => none }
def sideApartRow : OpenClaim := { program := "ytoofmfiallkmbaa", sum := "ae70e196ef96a68f675dd682c37bbe578e6581e95e2bb1dd29c0f100cc4b1681", func := "semaphore/semaphorelaw8.SideApart", spec := "sideApart", unfollowed := true, recurses := true, plainKeys := false, apart := false }
def SideApartSaid : Prop := sideApartRow.holds Try.pinned (OpenSpec.ofChange sideApartSpec)

/-- ITS FALSE NEIGHBOUR: 'it returns false'. Refute it at one input. -/
def sideApartWrong : ChangeSpec := { name := "sideApart", fn := fun _ => fun
  | [d1, d2] => { results := [.lit (.bool false)], args := [d1, d2] }
  | _ => none }
def SideApartWrongFalsely : Prop := sideApartRow.holds Try.pinned (OpenSpec.ofChange sideApartWrong)

/-- 'semaphorelaw8.SideShut': WHATEVER THE INPUT: true; the input reads as it did. -/
def sideShutSpec : ChangeSpec := { name := "sideShut", fn := fun _ => fun
  | [d1, d2, d3, d4, d5] => { results := [.lit (.bool true)], args := [d1, d2, d3, d4, d5] }
  | _ => none }
def sideShutRow : OpenClaim := { program := "ytoofmfiallkmbaa", sum := "ae70e196ef96a68f675dd682c37bbe578e6581e95e2bb1dd29c0f100cc4b1681", func := "semaphore/semaphorelaw8.SideShut", spec := "sideShut", unfollowed := true, recurses := true, plainKeys := false, apart := false }
def SideShutSaid : Prop := sideShutRow.holds Try.pinned (OpenSpec.ofChange sideShutSpec)

/-- ITS FALSE NEIGHBOUR: 'it returns false'. Refute it at one input. -/
def sideShutWrong : ChangeSpec := { name := "sideShut", fn := fun _ => fun
  | [d1, d2, d3, d4, d5] => { results := [.lit (.bool false)], args := [d1, d2, d3, d4, d5] }
  | _ => none }
def SideShutWrongFalsely : Prop := sideShutRow.holds Try.pinned (OpenSpec.ofChange sideShutWrong)

/-- 'semaphorelaw8.SideOwns': WHATEVER THE INPUT: true; the input reads as it did. -/
def sideOwnsSpec : ChangeSpec := { name := "sideOwns", fn := fun _ => fun
  | [d1, d2] => { results := [.lit (.bool true)], args := [d1, d2] }
  | _ => none }
def sideOwnsRow : OpenClaim := { program := "ytoofmfiallkmbaa", sum := "ae70e196ef96a68f675dd682c37bbe578e6581e95e2bb1dd29c0f100cc4b1681", func := "semaphore/semaphorelaw8.SideOwns", spec := "sideOwns", unfollowed := true, recurses := true, plainKeys := false, apart := false }
def SideOwnsSaid : Prop := sideOwnsRow.holds Try.pinned (OpenSpec.ofChange sideOwnsSpec)

/-- ITS FALSE NEIGHBOUR: 'it returns false'. Refute it at one input. -/
def sideOwnsWrong : ChangeSpec := { name := "sideOwns", fn := fun _ => fun
  | [d1, d2] => { results := [.lit (.bool false)], args := [d1, d2] }
  | _ => none }
def SideOwnsWrongFalsely : Prop := sideOwnsRow.holds Try.pinned (OpenSpec.ofChange sideOwnsWrong)

/-- 'semaphorelaw8.SideRuns': WHATEVER THE INPUT: true; the input reads as it did. -/
def sideRunsSpec : ChangeSpec := { name := "sideRuns", fn := fun _ => fun
  | [d1, d2, d3, d4, d5, d6] => { results := [.lit (.bool true)], args := [d1, d2, d3, d4, d5, d6] }
  | _ => none }
def sideRunsRow : OpenClaim := { program := "ytoofmfiallkmbaa", sum := "ae70e196ef96a68f675dd682c37bbe578e6581e95e2bb1dd29c0f100cc4b1681", func := "semaphore/semaphorelaw8.SideRuns", spec := "sideRuns", unfollowed := true, recurses := true, plainKeys := false, apart := false }
def SideRunsSaid : Prop := sideRunsRow.holds Try.pinned (OpenSpec.ofChange sideRunsSpec)

/-- ITS FALSE NEIGHBOUR: 'it returns false'. Refute it at one input. -/
def sideRunsWrong : ChangeSpec := { name := "sideRuns", fn := fun _ => fun
  | [d1, d2, d3, d4, d5, d6] => { results := [.lit (.bool false)], args := [d1, d2, d3, d4, d5, d6] }
  | _ => none }
def SideRunsWrongFalsely : Prop := sideRunsRow.holds Try.pinned (OpenSpec.ofChange sideRunsWrong)

/- THE SECOND FORM. 'bulk': how many values and letters a reading holds, each counted each time it is reached (what is shared counts as often as it is met; a slice's spare places count too). A statement '..UptoSaid' is the law's where the arguments, and the package variables that the reading takes, are together of bulk at most 1048576: NARROWER than '..Said'. Prove '..Said' where nothing that the law and all that it calls make is longer than what came in: it says more and counts as full. Else prove '..UptoSaid'. A law counts once. -/
mutual
def uptoBulk {H : Type} : DataW H → Nat
  | .lit (.string bytes) => bytes.length + 1
  | .lit _ => 1
  | .nil => 1
  | .ptr d => uptoBulk d + 1
  | .slice elems spare => uptoBulkAll elems + uptoBulkAll spare + 1
  | .agg parts => uptoBulkAll parts + 1
  | .iface _ d => uptoBulk d + 1
  | .map entries => uptoBulkEntries entries + 1
  | .held _ => 1
def uptoBulkAll {H : Type} : List (DataW H) → Nat
  | [] => 0
  | d :: r => uptoBulk d + uptoBulkAll r
def uptoBulkEntries {H : Type} : List (Lit × DataW H) → Nat
  | [] => 0
  | x :: r => uptoBulkEntry x + uptoBulkEntries r
def uptoBulkEntry {H : Type} : Lit × DataW H → Nat
  | (.string bytes, d) => bytes.length + uptoBulk d + 1
  | (_, d) => uptoBulk d + 1
 end
def uptoSmall : (H : Type) → List (DataW H) → Bool := fun _ ds => decide (uptoBulkAll ds ≤ 1048576)
def OpenSpec.upto (s : _root_.Go.ChangeSpec) : _root_.Go.OpenSpec := { _root_.Go.OpenSpec.ofChange s with cond := some uptoSmall }

/-- 'semaphorelaw9.FlankOfs', WHERE WHAT IT READS IS OF BULK AT MOST 1048576: true; the input reads as it did. -/
def flankOfsUptoRow : OpenClaim := { program := "ytoofmfiallkmbaa", sum := "ae70e196ef96a68f675dd682c37bbe578e6581e95e2bb1dd29c0f100cc4b1681", func := "semaphore/semaphorelaw9.FlankOfs", spec := "flankOfs", unfollowed := true, recurses := true, plainKeys := false, apart := false, narrowed := true }
def FlankOfsUptoSaid : Prop := flankOfsUptoRow.holds Try.pinned (OpenSpec.upto flankOfsSpec)

/-- 'semaphorelaw9.FlankReady', WHERE WHAT IT READS IS OF BULK AT MOST 1048576: true; the input reads as it did. -/
def flankReadyUptoRow : OpenClaim := { program := "ytoofmfiallkmbaa", sum := "ae70e196ef96a68f675dd682c37bbe578e6581e95e2bb1dd29c0f100cc4b1681", func := "semaphore/semaphorelaw9.FlankReady", spec := "flankReady", unfollowed := true, recurses := true, plainKeys := false, apart := false, narrowed := true }
def FlankReadyUptoSaid : Prop := flankReadyUptoRow.holds Try.pinned (OpenSpec.upto flankReadySpec)

/-- 'semaphorelaw9.FlankApart', WHERE WHAT IT READS IS OF BULK AT MOST 1048576: true; the input reads as it did. -/
def flankApartUptoRow : OpenClaim := { program := "ytoofmfiallkmbaa", sum := "ae70e196ef96a68f675dd682c37bbe578e6581e95e2bb1dd29c0f100cc4b1681", func := "semaphore/semaphorelaw9.FlankApart", spec := "flankApart", unfollowed := true, recurses := true, plainKeys := false, apart := false, narrowed := true }
def FlankApartUptoSaid : Prop := flankApartUptoRow.holds Try.pinned (OpenSpec.upto flankApartSpec)

/-- 'semaphorelaw9.FlankAgain', WHERE WHAT IT READS IS OF BULK AT MOST 1048576: true; the input reads as it did. -/
def flankAgainUptoRow : OpenClaim := { program := "ytoofmfiallkmbaa", sum := "ae70e196ef96a68f675dd682c37bbe578e6581e95e2bb1dd29c0f100cc4b1681", func := "semaphore/semaphorelaw9.FlankAgain", spec := "flankAgain", unfollowed := true, recurses := true, plainKeys := false, apart := false, narrowed := true }
def FlankAgainUptoSaid : Prop := flankAgainUptoRow.holds Try.pinned (OpenSpec.upto flankAgainSpec)

/-- 'semaphorelaw9.FlankNone', WHERE WHAT IT READS IS OF BULK AT MOST 1048576: true; the input reads as it did. -/
def flankNoneUptoRow : OpenClaim := { program := "ytoofmfiallkmbaa", sum := "ae70e196ef96a68f675dd682c37bbe578e6581e95e2bb1dd29c0f100cc4b1681", func := "semaphore/semaphorelaw9.FlankNone", spec := "flankNone", unfollowed := true, recurses := true, plainKeys := false, apart := false, narrowed := true }
def FlankNoneUptoSaid : Prop := flankNoneUptoRow.holds Try.pinned (OpenSpec.upto flankNoneSpec)

/-- 'semaphorelaw9.FlankOne', WHERE WHAT IT READS IS OF BULK AT MOST 1048576: true; the input reads as it did. -/
def flankOneUptoRow : OpenClaim := { program := "ytoofmfiallkmbaa", sum := "ae70e196ef96a68f675dd682c37bbe578e6581e95e2bb1dd29c0f100cc4b1681", func := "semaphore/semaphorelaw9.FlankOne", spec := "flankOne", unfollowed := true, recurses := true, plainKeys := false, apart := false, narrowed := true }
def FlankOneUptoSaid : Prop := flankOneUptoRow.holds Try.pinned (OpenSpec.upto flankOneSpec)

/-- 'semaphorelaw8.SidePorts', WHERE WHAT IT READS IS OF BULK AT MOST 1048576: true; the input reads as it did. -/
def sidePortsUptoRow : OpenClaim := { program := "ytoofmfiallkmbaa", sum := "ae70e196ef96a68f675dd682c37bbe578e6581e95e2bb1dd29c0f100cc4b1681", func := "semaphore/semaphorelaw8.SidePorts", spec := "sidePorts", unfollowed := true, recurses := true, plainKeys := false, apart := false, narrowed := true }
def SidePortsUptoSaid : Prop := sidePortsUptoRow.holds Try.pinned (OpenSpec.upto sidePortsSpec)

/-- 'semaphorelaw8.SideApart', WHERE WHAT IT READS IS OF BULK AT MOST 1048576: true; the input reads as it did. -/
def sideApartUptoRow : OpenClaim := { program := "ytoofmfiallkmbaa", sum := "ae70e196ef96a68f675dd682c37bbe578e6581e95e2bb1dd29c0f100cc4b1681", func := "semaphore/semaphorelaw8.SideApart", spec := "sideApart", unfollowed := true, recurses := true, plainKeys := false, apart := false, narrowed := true }
def SideApartUptoSaid : Prop := sideApartUptoRow.holds Try.pinned (OpenSpec.upto sideApartSpec)

/-- 'semaphorelaw8.SideShut', WHERE WHAT IT READS IS OF BULK AT MOST 1048576: true; the input reads as it did. -/
def sideShutUptoRow : OpenClaim := { program := "ytoofmfiallkmbaa", sum := "ae70e196ef96a68f675dd682c37bbe578e6581e95e2bb1dd29c0f100cc4b1681", func := "semaphore/semaphorelaw8.SideShut", spec := "sideShut", unfollowed := true, recurses := true, plainKeys := false, apart := false, narrowed := true }
def SideShutUptoSaid : Prop := sideShutUptoRow.holds Try.pinned (OpenSpec.upto sideShutSpec)

/-- 'semaphorelaw8.SideOwns', WHERE WHAT IT READS IS OF BULK AT MOST 1048576: true; the input reads as it did. -/
def sideOwnsUptoRow : OpenClaim := { program := "ytoofmfiallkmbaa", sum := "ae70e196ef96a68f675dd682c37bbe578e6581e95e2bb1dd29c0f100cc4b1681", func := "semaphore/semaphorelaw8.SideOwns", spec := "sideOwns", unfollowed := true, recurses := true, plainKeys := false, apart := false, narrowed := true }
def SideOwnsUptoSaid : Prop := sideOwnsUptoRow.holds Try.pinned (OpenSpec.upto sideOwnsSpec)

/-- 'semaphorelaw8.SideRuns', WHERE WHAT IT READS IS OF BULK AT MOST 1048576: true; the input reads as it did. -/
def sideRunsUptoRow : OpenClaim := { program := "ytoofmfiallkmbaa", sum := "ae70e196ef96a68f675dd682c37bbe578e6581e95e2bb1dd29c0f100cc4b1681", func := "semaphore/semaphorelaw8.SideRuns", spec := "sideRuns", unfollowed := true, recurses := true, plainKeys := false, apart := false, narrowed := true }
def SideRunsUptoSaid : Prop := sideRunsUptoRow.holds Try.pinned (OpenSpec.upto sideRunsSpec)

end Rows
end Go.Proofs.Ytoofmfiallkmbaa
