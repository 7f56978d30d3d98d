/-
  No cell of these rows narrows 'for every input' (looked for: loops, veiled, ifaces, maps, wideKeys, modest, calm, conditions, laid).
  DERIVED. THE GIVEN ROWS OF THIS SEAT. 8 by the template 'for every input the law returns true; each argument reads behind the call as it read before'; 0 by the template 'total and deterministic' (their statements: YtdppdkjoaanpnaaGreatTotals.lean).
  GIVEN WITH THE SEED: the statements are not yours to turn. If you find one false, say at which input.
  Laid BY PROGRAM, IN A SANDBOX (cutbox-rows.mjs): the forced cells as the released guide's own fill.sh prints them over the translation e0b1d020eb6b8a01… (all of the seat's roots in one cut). By AI agents, Wed Nov 11 2026. No macro, syntax, notation, axiom, sorry.
-/
import Derived.Test.YtdppdkjoaanpnaaGreatChecked
import GoSem.Claim
import GoSem.ClaimJoined
import GoSem.ClaimMapViews
import Derived.JoinedTies
import Derived.KernelRfl
namespace Go.Proofs.YtdppdkjoaanpnaaGreat
/- THE CELL 'sum', in the pinned program and in every row, IS THE sha256 OF THE DUMP (.gsa) THAT YtdppdkjoaanpnaaGreatProg.lean LOADS. Nothing in Lean hashes anything: it is a label: what it is worth is what the hold of that sum in a sandbox is worth. -/
noncomputable def Tryz.pinned : Pinned := { name := "ytdppdkjoaanpnaagreat", sum := "e0b1d020eb6b8a01cccf225dbf05e459636827b6bb4728a76cdafcf3f1312aeb", checked := Tryz.checked }
namespace Rows
def none {H : Type} : Left H := { results := [], args := [] }

/-- 'semaphorelaw7.RoadOfs': WHATEVER THE INPUT: true; the input reads as it did. -/
def roadOfsSpec : ChangeSpec := { name := "roadOfs", fn := fun _ => fun
  | [d1, d2] => { results := [.lit (.bool true)], args := [d1, d2] }
  | _ => none }
def roadOfsRow : OpenClaim := { program := "ytdppdkjoaanpnaagreat", sum := "e0b1d020eb6b8a01cccf225dbf05e459636827b6bb4728a76cdafcf3f1312aeb", func := "semaphore/semaphorelaw7.RoadOfs", spec := "roadOfs", unfollowed := true, recurses := true, plainKeys := false, apart := false }
def RoadOfsSaid : Prop := roadOfsRow.holds Tryz.pinned (OpenSpec.ofChange roadOfsSpec)

/-- ITS FALSE NEIGHBOUR: 'it returns false'. Refute it at one input. -/
def roadOfsWrong : ChangeSpec := { name := "roadOfs", fn := fun _ => fun
  | [d1, d2] => { results := [.lit (.bool false)], args := [d1, d2] }
  | _ => none }
def RoadOfsWrongFalsely : Prop := roadOfsRow.holds Tryz.pinned (OpenSpec.ofChange roadOfsWrong)

/-- 'semaphorelaw7.RoadAlls': WHATEVER THE INPUT: true; the input reads as it did. -/
def roadAllsSpec : ChangeSpec := { name := "roadAlls", fn := fun _ => fun
  | [d] => { results := [.lit (.bool true)], args := [d] }
  | _ => none }
def roadAllsRow : OpenClaim := { program := "ytdppdkjoaanpnaagreat", sum := "e0b1d020eb6b8a01cccf225dbf05e459636827b6bb4728a76cdafcf3f1312aeb", func := "semaphore/semaphorelaw7.RoadAlls", spec := "roadAlls", unfollowed := true, recurses := true, plainKeys := false, apart := false }
def RoadAllsSaid : Prop := roadAllsRow.holds Tryz.pinned (OpenSpec.ofChange roadAllsSpec)

/-- ITS FALSE NEIGHBOUR: 'it returns false'. Refute it at one input. -/
def roadAllsWrong : ChangeSpec := { name := "roadAlls", fn := fun _ => fun
  | [d] => { results := [.lit (.bool false)], args := [d] }
  | _ => none }
def RoadAllsWrongFalsely : Prop := roadAllsRow.holds Tryz.pinned (OpenSpec.ofChange roadAllsWrong)

/-- 'semaphorelaw7.RoadIsOne': WHATEVER THE INPUT: true; the input reads as it did. -/
def roadIsOneSpec : ChangeSpec := { name := "roadIsOne", fn := fun _ => fun
  | [d1, d2] => { results := [.lit (.bool true)], args := [d1, d2] }
  | _ => none }
def roadIsOneRow : OpenClaim := { program := "ytdppdkjoaanpnaagreat", sum := "e0b1d020eb6b8a01cccf225dbf05e459636827b6bb4728a76cdafcf3f1312aeb", func := "semaphore/semaphorelaw7.RoadIsOne", spec := "roadIsOne", unfollowed := true, recurses := true, plainKeys := false, apart := false }
def RoadIsOneSaid : Prop := roadIsOneRow.holds Tryz.pinned (OpenSpec.ofChange roadIsOneSpec)

/-- ITS FALSE NEIGHBOUR: 'it returns false'. Refute it at one input. -/
def roadIsOneWrong : ChangeSpec := { name := "roadIsOne", fn := fun _ => fun
  | [d1, d2] => { results := [.lit (.bool false)], args := [d1, d2] }
  | _ => none }
def RoadIsOneWrongFalsely : Prop := roadIsOneRow.holds Tryz.pinned (OpenSpec.ofChange roadIsOneWrong)

/-- 'semaphorelaw7.RoadTurned': WHATEVER THE INPUT: true; the input reads as it did. -/
def roadTurnedSpec : ChangeSpec := { name := "roadTurned", fn := fun _ => fun
  | [d1, d2, d3, d4, d5] => { results := [.lit (.bool true)], args := [d1, d2, d3, d4, d5] }
  | _ => none }
def roadTurnedRow : OpenClaim := { program := "ytdppdkjoaanpnaagreat", sum := "e0b1d020eb6b8a01cccf225dbf05e459636827b6bb4728a76cdafcf3f1312aeb", func := "semaphore/semaphorelaw7.RoadTurned", spec := "roadTurned", unfollowed := true, recurses := true, plainKeys := false, apart := false }
def RoadTurnedSaid : Prop := roadTurnedRow.holds Tryz.pinned (OpenSpec.ofChange roadTurnedSpec)

/-- ITS FALSE NEIGHBOUR: 'it returns false'. Refute it at one input. -/
def roadTurnedWrong : ChangeSpec := { name := "roadTurned", fn := fun _ => fun
  | [d1, d2, d3, d4, d5] => { results := [.lit (.bool false)], args := [d1, d2, d3, d4, d5] }
  | _ => none }
def RoadTurnedWrongFalsely : Prop := roadTurnedRow.holds Tryz.pinned (OpenSpec.ofChange roadTurnedWrong)

/-- 'semaphorelaw7.RoadEach': WHATEVER THE INPUT: true; the input reads as it did. -/
def roadEachSpec : ChangeSpec := { name := "roadEach", fn := fun _ => fun
  | [d1, d2] => { results := [.lit (.bool true)], args := [d1, d2] }
  | _ => none }
def roadEachRow : OpenClaim := { program := "ytdppdkjoaanpnaagreat", sum := "e0b1d020eb6b8a01cccf225dbf05e459636827b6bb4728a76cdafcf3f1312aeb", func := "semaphore/semaphorelaw7.RoadEach", spec := "roadEach", unfollowed := true, recurses := true, plainKeys := false, apart := false }
def RoadEachSaid : Prop := roadEachRow.holds Tryz.pinned (OpenSpec.ofChange roadEachSpec)

/-- ITS FALSE NEIGHBOUR: 'it returns false'. Refute it at one input. -/
def roadEachWrong : ChangeSpec := { name := "roadEach", fn := fun _ => fun
  | [d1, d2] => { results := [.lit (.bool false)], args := [d1, d2] }
  | _ => none }
def RoadEachWrongFalsely : Prop := roadEachRow.holds Tryz.pinned (OpenSpec.ofChange roadEachWrong)

/-- 'semaphorelaw7.RoadFinds': WHATEVER THE INPUT: true; the input reads as it did. -/
def roadFindsSpec : ChangeSpec := { name := "roadFinds", fn := fun _ => fun
  | [d1, d2, d3, d4, d5, d6] => { results := [.lit (.bool true)], args := [d1, d2, d3, d4, d5, d6] }
  | _ => none }
def roadFindsRow : OpenClaim := { program := "ytdppdkjoaanpnaagreat", sum := "e0b1d020eb6b8a01cccf225dbf05e459636827b6bb4728a76cdafcf3f1312aeb", func := "semaphore/semaphorelaw7.RoadFinds", spec := "roadFinds", unfollowed := true, recurses := true, plainKeys := false, apart := false }
def RoadFindsSaid : Prop := roadFindsRow.holds Tryz.pinned (OpenSpec.ofChange roadFindsSpec)

/-- ITS FALSE NEIGHBOUR: 'it returns false'. Refute it at one input. -/
def roadFindsWrong : ChangeSpec := { name := "roadFinds", fn := fun _ => fun
  | [d1, d2, d3, d4, d5, d6] => { results := [.lit (.bool false)], args := [d1, d2, d3, d4, d5, d6] }
  | _ => none }
def RoadFindsWrongFalsely : Prop := roadFindsRow.holds Tryz.pinned (OpenSpec.ofChange roadFindsWrong)

/-- 'semaphorelaw7.RoadRuns': WHATEVER THE INPUT: true; the input reads as it did. -/
def roadRunsSpec : ChangeSpec := { name := "roadRuns", fn := fun _ => fun
  | [d1, d2, d3] => { results := [.lit (.bool true)], args := [d1, d2, d3] }
  | _ => none }
def roadRunsRow : OpenClaim := { program := "ytdppdkjoaanpnaagreat", sum := "e0b1d020eb6b8a01cccf225dbf05e459636827b6bb4728a76cdafcf3f1312aeb", func := "semaphore/semaphorelaw7.RoadRuns", spec := "roadRuns", unfollowed := true, recurses := true, plainKeys := false, apart := false }
def RoadRunsSaid : Prop := roadRunsRow.holds Tryz.pinned (OpenSpec.ofChange roadRunsSpec)

/-- ITS FALSE NEIGHBOUR: 'it returns false'. Refute it at one input. -/
def roadRunsWrong : ChangeSpec := { name := "roadRuns", fn := fun _ => fun
  | [d1, d2, d3] => { results := [.lit (.bool false)], args := [d1, d2, d3] }
  | _ => none }
def RoadRunsWrongFalsely : Prop := roadRunsRow.holds Tryz.pinned (OpenSpec.ofChange roadRunsWrong)

/-- 'semaphorelaw7.RoadWhole': WHATEVER THE INPUT: true; the input reads as it did. -/
def roadWholeSpec : ChangeSpec := { name := "roadWhole", fn := fun _ => fun
  | [d1, d2, d3] => { results := [.lit (.bool true)], args := [d1, d2, d3] }
  | _ => none }
def roadWholeRow : OpenClaim := { program := "ytdppdkjoaanpnaagreat", sum := "e0b1d020eb6b8a01cccf225dbf05e459636827b6bb4728a76cdafcf3f1312aeb", func := "semaphore/semaphorelaw7.RoadWhole", spec := "roadWhole", unfollowed := true, recurses := true, plainKeys := false, apart := false }
def RoadWholeSaid : Prop := roadWholeRow.holds Tryz.pinned (OpenSpec.ofChange roadWholeSpec)

/-- ITS FALSE NEIGHBOUR: 'it returns false'. Refute it at one input. -/
def roadWholeWrong : ChangeSpec := { name := "roadWhole", fn := fun _ => fun
  | [d1, d2, d3] => { results := [.lit (.bool false)], args := [d1, d2, d3] }
  | _ => none }
def RoadWholeWrongFalsely : Prop := roadWholeRow.holds Tryz.pinned (OpenSpec.ofChange roadWholeWrong)

/- THE SECOND FORM. 'bulk': how many values and letters a reading holds, each counted each time it is reached (what is shared counts as often as it is met; a slice's spare places count too). A statement '..UptoSaid' is the law's where the arguments, and the package variables that the reading takes, are together of bulk at most 1048576: NARROWER than '..Said'. Prove '..Said' where nothing that the law and all that it calls make is longer than what came in: it says more and counts as full. Else prove '..UptoSaid'. A law counts once. -/
mutual
def uptoBulk {H : Type} : DataW H → Nat
  | .lit (.string bytes) => bytes.length + 1
  | .lit _ => 1
  | .nil => 1
  | .ptr d => uptoBulk d + 1
  | .slice elems spare => uptoBulkAll elems + uptoBulkAll spare + 1
  | .agg parts => uptoBulkAll parts + 1
  | .iface _ d => uptoBulk d + 1
  | .map entries => uptoBulkEntries entries + 1
  | .held _ => 1
def uptoBulkAll {H : Type} : List (DataW H) → Nat
  | [] => 0
  | d :: r => uptoBulk d + uptoBulkAll r
def uptoBulkEntries {H : Type} : List (Lit × DataW H) → Nat
  | [] => 0
  | x :: r => uptoBulkEntry x + uptoBulkEntries r
def uptoBulkEntry {H : Type} : Lit × DataW H → Nat
  | (.string bytes, d) => bytes.length + uptoBulk d + 1
  | (_, d) => uptoBulk d + 1
 end
def uptoSmall : (H : Type) → List (DataW H) → Bool := fun _ ds => decide (uptoBulkAll ds ≤ 1048576)
def OpenSpec.upto (s : _root_.Go.ChangeSpec) : _root_.Go.OpenSpec := { _root_.Go.OpenSpec.ofChange s with cond := some uptoSmall }

/-- 'semaphorelaw7.RoadOfs', WHERE WHAT IT READS IS OF BULK AT MOST 1048576: true; the input reads as it did. -/
def roadOfsUptoRow : OpenClaim := { program := "ytdppdkjoaanpnaagreat", sum := "e0b1d020eb6b8a01cccf225dbf05e459636827b6bb4728a76cdafcf3f1312aeb", func := "semaphore/semaphorelaw7.RoadOfs", spec := "roadOfs", unfollowed := true, recurses := true, plainKeys := false, apart := false, narrowed := true }
def RoadOfsUptoSaid : Prop := roadOfsUptoRow.holds Tryz.pinned (OpenSpec.upto roadOfsSpec)

/-- 'semaphorelaw7.RoadAlls', WHERE WHAT IT READS IS OF BULK AT MOST 1048576: true; the input reads as it did. -/
def roadAllsUptoRow : OpenClaim := { program := "ytdppdkjoaanpnaagreat", sum := "e0b1d020eb6b8a01cccf225dbf05e459636827b6bb4728a76cdafcf3f1312aeb", func := "semaphore/semaphorelaw7.RoadAlls", spec := "roadAlls", unfollowed := true, recurses := true, plainKeys := false, apart := false, narrowed := true }
def RoadAllsUptoSaid : Prop := roadAllsUptoRow.holds Tryz.pinned (OpenSpec.upto roadAllsSpec)

/-- 'semaphorelaw7.RoadIsOne', WHERE WHAT IT READS IS OF BULK AT MOST 1048576: true; the input reads as it did. -/
def roadIsOneUptoRow : OpenClaim := { program := "ytdppdkjoaanpnaagreat", sum := "e0b1d020eb6b8a01cccf225dbf05e459636827b6bb4728a76cdafcf3f1312aeb", func := "semaphore/semaphorelaw7.RoadIsOne", spec := "roadIsOne", unfollowed := true, recurses := true, plainKeys := false, apart := false, narrowed := true }
def RoadIsOneUptoSaid : Prop := roadIsOneUptoRow.holds Tryz.pinned (OpenSpec.upto roadIsOneSpec)

/-- 'semaphorelaw7.RoadTurned', WHERE WHAT IT READS IS OF BULK AT MOST 1048576: true; the input reads as it did. -/
def roadTurnedUptoRow : OpenClaim := { program := "ytdppdkjoaanpnaagreat", sum := "e0b1d020eb6b8a01cccf225dbf05e459636827b6bb4728a76cdafcf3f1312aeb", func := "semaphore/semaphorelaw7.RoadTurned", spec := "roadTurned", unfollowed := true, recurses := true, plainKeys := false, apart := false, narrowed := true }
def RoadTurnedUptoSaid : Prop := roadTurnedUptoRow.holds Tryz.pinned (OpenSpec.upto roadTurnedSpec)

/-- 'semaphorelaw7.RoadEach', WHERE WHAT IT READS IS OF BULK AT MOST 1048576: true; the input reads as it did. -/
def roadEachUptoRow : OpenClaim := { program := "ytdppdkjoaanpnaagreat", sum := "e0b1d020eb6b8a01cccf225dbf05e459636827b6bb4728a76cdafcf3f1312aeb", func := "semaphore/semaphorelaw7.RoadEach", spec := "roadEach", unfollowed := true, recurses := true, plainKeys := false, apart := false, narrowed := true }
def RoadEachUptoSaid : Prop := roadEachUptoRow.holds Tryz.pinned (OpenSpec.upto roadEachSpec)

/-- 'semaphorelaw7.RoadFinds', WHERE WHAT IT READS IS OF BULK AT MOST 1048576: true; the input reads as it did. -/
def roadFindsUptoRow : OpenClaim := { program := "ytdppdkjoaanpnaagreat", sum := "e0b1d020eb6b8a01cccf225dbf05e459636827b6bb4728a76cdafcf3f1312aeb", func := "semaphore/semaphorelaw7.RoadFinds", spec := "roadFinds", unfollowed := true, recurses := true, plainKeys := false, apart := false, narrowed := true }
def RoadFindsUptoSaid : Prop := roadFindsUptoRow.holds Tryz.pinned (OpenSpec.upto roadFindsSpec)

/-- 'semaphorelaw7.RoadRuns', WHERE WHAT IT READS IS OF BULK AT MOST 1048576: true; the input reads as it did. -/
def roadRunsUptoRow : OpenClaim := { program := "ytdppdkjoaanpnaagreat", sum := "e0b1d020eb6b8a01cccf225dbf05e459636827b6bb4728a76cdafcf3f1312aeb", func := "semaphore/semaphorelaw7.RoadRuns", spec := "roadRuns", unfollowed := true, recurses := true, plainKeys := false, apart := false, narrowed := true }
def RoadRunsUptoSaid : Prop := roadRunsUptoRow.holds Tryz.pinned (OpenSpec.upto roadRunsSpec)

/-- 'semaphorelaw7.RoadWhole', WHERE WHAT IT READS IS OF BULK AT MOST 1048576: true; the input reads as it did. -/
def roadWholeUptoRow : OpenClaim := { program := "ytdppdkjoaanpnaagreat", sum := "e0b1d020eb6b8a01cccf225dbf05e459636827b6bb4728a76cdafcf3f1312aeb", func := "semaphore/semaphorelaw7.RoadWhole", spec := "roadWhole", unfollowed := true, recurses := true, plainKeys := false, apart := false, narrowed := true }
def RoadWholeUptoSaid : Prop := roadWholeUptoRow.holds Tryz.pinned (OpenSpec.upto roadWholeSpec)

end Rows
end Go.Proofs.YtdppdkjoaanpnaaGreat
