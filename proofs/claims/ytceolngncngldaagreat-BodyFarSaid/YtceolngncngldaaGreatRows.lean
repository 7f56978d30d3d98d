/-
  No cell of these rows narrows 'for every input' (looked for: loops, veiled, ifaces, maps, wideKeys, modest, calm, conditions, laid).
  DERIVED. THE GIVEN ROWS OF THIS SEAT. 9 by the template 'for every input the law returns true; each argument reads behind the call as it read before'; 0 by the template 'total and deterministic' (their statements: YtceolngncngldaaGreatTotals.lean).
  GIVEN WITH THE SEED: the statements are not yours to turn. If you find one false, say at which input.
  Laid BY PROGRAM, IN A SANDBOX (cutbox-rows.mjs): the forced cells as the released guide's own fill.sh prints them over the translation 3c9484cff865dc82… (all of the seat's roots in one cut). By AI agents, Wed Nov 11 2026. No macro, syntax, notation, axiom, sorry.
-/
import Derived.Test.YtceolngncngldaaGreatChecked
import GoSem.Claim
import GoSem.ClaimJoined
import GoSem.ClaimMapViews
import Derived.JoinedTies
import Derived.KernelRfl
namespace Go.Proofs.YtceolngncngldaaGreat
/- THE CELL 'sum', in the pinned program and in every row, IS THE sha256 OF THE DUMP (.gsa) THAT YtceolngncngldaaGreatProg.lean LOADS. Nothing in Lean hashes anything: it is a label: what it is worth is what the hold of that sum in a sandbox is worth. -/
noncomputable def Tryz.pinned : Pinned := { name := "ytceolngncngldaagreat", sum := "3c9484cff865dc824addc12dd2f382412d17386efbbeab8938e6515faa6fe028", checked := Tryz.checked }
namespace Rows
def none {H : Type} : Left H := { results := [], args := [] }

/-- 'semaphorelaw24.LoopHeld': WHATEVER THE INPUT: true; the input reads as it did. -/
def loopHeldSpec : ChangeSpec := { name := "loopHeld", fn := fun _ => fun
  | [d1, d2, d3] => { results := [.lit (.bool true)], args := [d1, d2, d3] }
  | _ => none }
def loopHeldRow : OpenClaim := { program := "ytceolngncngldaagreat", sum := "3c9484cff865dc824addc12dd2f382412d17386efbbeab8938e6515faa6fe028", func := "semaphore/semaphorelaw24.LoopHeld", spec := "loopHeld", unfollowed := true, recurses := true, plainKeys := false, apart := false }
def LoopHeldSaid : Prop := loopHeldRow.holds Tryz.pinned (OpenSpec.ofChange loopHeldSpec)

/-- ITS FALSE NEIGHBOUR: 'it returns false'. Refute it at one input. -/
def loopHeldWrong : ChangeSpec := { name := "loopHeld", fn := fun _ => fun
  | [d1, d2, d3] => { results := [.lit (.bool false)], args := [d1, d2, d3] }
  | _ => none }
def LoopHeldWrongFalsely : Prop := loopHeldRow.holds Tryz.pinned (OpenSpec.ofChange loopHeldWrong)

/-- 'semaphorelaw24.LoopTells': WHATEVER THE INPUT: true; the input reads as it did. -/
def loopTellsSpec : ChangeSpec := { name := "loopTells", fn := fun _ => fun
  | [d1, d2, d3] => { results := [.lit (.bool true)], args := [d1, d2, d3] }
  | _ => none }
def loopTellsRow : OpenClaim := { program := "ytceolngncngldaagreat", sum := "3c9484cff865dc824addc12dd2f382412d17386efbbeab8938e6515faa6fe028", func := "semaphore/semaphorelaw24.LoopTells", spec := "loopTells", unfollowed := true, recurses := true, plainKeys := false, apart := false }
def LoopTellsSaid : Prop := loopTellsRow.holds Tryz.pinned (OpenSpec.ofChange loopTellsSpec)

/-- ITS FALSE NEIGHBOUR: 'it returns false'. Refute it at one input. -/
def loopTellsWrong : ChangeSpec := { name := "loopTells", fn := fun _ => fun
  | [d1, d2, d3] => { results := [.lit (.bool false)], args := [d1, d2, d3] }
  | _ => none }
def LoopTellsWrongFalsely : Prop := loopTellsRow.holds Tryz.pinned (OpenSpec.ofChange loopTellsWrong)

/-- 'semaphorelaw23.BodyStarts': WHATEVER THE INPUT: true; the input reads as it did. -/
def bodyStartsSpec : ChangeSpec := { name := "bodyStarts", fn := fun _ => fun
  | [d1, d2, d3] => { results := [.lit (.bool true)], args := [d1, d2, d3] }
  | _ => none }
def bodyStartsRow : OpenClaim := { program := "ytceolngncngldaagreat", sum := "3c9484cff865dc824addc12dd2f382412d17386efbbeab8938e6515faa6fe028", func := "semaphore/semaphorelaw23.BodyStarts", spec := "bodyStarts", unfollowed := true, recurses := true, plainKeys := false, apart := false }
def BodyStartsSaid : Prop := bodyStartsRow.holds Tryz.pinned (OpenSpec.ofChange bodyStartsSpec)

/-- ITS FALSE NEIGHBOUR: 'it returns false'. Refute it at one input. -/
def bodyStartsWrong : ChangeSpec := { name := "bodyStarts", fn := fun _ => fun
  | [d1, d2, d3] => { results := [.lit (.bool false)], args := [d1, d2, d3] }
  | _ => none }
def BodyStartsWrongFalsely : Prop := bodyStartsRow.holds Tryz.pinned (OpenSpec.ofChange bodyStartsWrong)

/-- 'semaphorelaw23.BodyTurns': WHATEVER THE INPUT: true; the input reads as it did. -/
def bodyTurnsSpec : ChangeSpec := { name := "bodyTurns", fn := fun _ => fun
  | [d1, d2, d3] => { results := [.lit (.bool true)], args := [d1, d2, d3] }
  | _ => none }
def bodyTurnsRow : OpenClaim := { program := "ytceolngncngldaagreat", sum := "3c9484cff865dc824addc12dd2f382412d17386efbbeab8938e6515faa6fe028", func := "semaphore/semaphorelaw23.BodyTurns", spec := "bodyTurns", unfollowed := true, recurses := true, plainKeys := false, apart := false }
def BodyTurnsSaid : Prop := bodyTurnsRow.holds Tryz.pinned (OpenSpec.ofChange bodyTurnsSpec)

/-- ITS FALSE NEIGHBOUR: 'it returns false'. Refute it at one input. -/
def bodyTurnsWrong : ChangeSpec := { name := "bodyTurns", fn := fun _ => fun
  | [d1, d2, d3] => { results := [.lit (.bool false)], args := [d1, d2, d3] }
  | _ => none }
def BodyTurnsWrongFalsely : Prop := bodyTurnsRow.holds Tryz.pinned (OpenSpec.ofChange bodyTurnsWrong)

/-- 'semaphorelaw23.BodyTwo': WHATEVER THE INPUT: true; the input reads as it did. -/
def bodyTwoSpec : ChangeSpec := { name := "bodyTwo", fn := fun _ => fun
  | [d1, d2, d3, d4, d5, d6] => { results := [.lit (.bool true)], args := [d1, d2, d3, d4, d5, d6] }
  | _ => none }
def bodyTwoRow : OpenClaim := { program := "ytceolngncngldaagreat", sum := "3c9484cff865dc824addc12dd2f382412d17386efbbeab8938e6515faa6fe028", func := "semaphore/semaphorelaw23.BodyTwo", spec := "bodyTwo", unfollowed := true, recurses := true, plainKeys := false, apart := false }
def BodyTwoSaid : Prop := bodyTwoRow.holds Tryz.pinned (OpenSpec.ofChange bodyTwoSpec)

/-- ITS FALSE NEIGHBOUR: 'it returns false'. Refute it at one input. -/
def bodyTwoWrong : ChangeSpec := { name := "bodyTwo", fn := fun _ => fun
  | [d1, d2, d3, d4, d5, d6] => { results := [.lit (.bool false)], args := [d1, d2, d3, d4, d5, d6] }
  | _ => none }
def BodyTwoWrongFalsely : Prop := bodyTwoRow.holds Tryz.pinned (OpenSpec.ofChange bodyTwoWrong)

/-- 'semaphorelaw23.BodyStill': WHATEVER THE INPUT: true; the input reads as it did. -/
def bodyStillSpec : ChangeSpec := { name := "bodyStill", fn := fun _ => fun
  | [d1, d2, d3, d4, d5] => { results := [.lit (.bool true)], args := [d1, d2, d3, d4, d5] }
  | _ => none }
def bodyStillRow : OpenClaim := { program := "ytceolngncngldaagreat", sum := "3c9484cff865dc824addc12dd2f382412d17386efbbeab8938e6515faa6fe028", func := "semaphore/semaphorelaw23.BodyStill", spec := "bodyStill", unfollowed := true, recurses := true, plainKeys := false, apart := false }
def BodyStillSaid : Prop := bodyStillRow.holds Tryz.pinned (OpenSpec.ofChange bodyStillSpec)

/-- ITS FALSE NEIGHBOUR: 'it returns false'. Refute it at one input. -/
def bodyStillWrong : ChangeSpec := { name := "bodyStill", fn := fun _ => fun
  | [d1, d2, d3, d4, d5] => { results := [.lit (.bool false)], args := [d1, d2, d3, d4, d5] }
  | _ => none }
def BodyStillWrongFalsely : Prop := bodyStillRow.holds Tryz.pinned (OpenSpec.ofChange bodyStillWrong)

/-- 'semaphorelaw23.BodyMoves': WHATEVER THE INPUT: true; the input reads as it did. -/
def bodyMovesSpec : ChangeSpec := { name := "bodyMoves", fn := fun _ => fun
  | [d1, d2, d3, d4, d5] => { results := [.lit (.bool true)], args := [d1, d2, d3, d4, d5] }
  | _ => none }
def bodyMovesRow : OpenClaim := { program := "ytceolngncngldaagreat", sum := "3c9484cff865dc824addc12dd2f382412d17386efbbeab8938e6515faa6fe028", func := "semaphore/semaphorelaw23.BodyMoves", spec := "bodyMoves", unfollowed := true, recurses := true, plainKeys := false, apart := false }
def BodyMovesSaid : Prop := bodyMovesRow.holds Tryz.pinned (OpenSpec.ofChange bodyMovesSpec)

/-- ITS FALSE NEIGHBOUR: 'it returns false'. Refute it at one input. -/
def bodyMovesWrong : ChangeSpec := { name := "bodyMoves", fn := fun _ => fun
  | [d1, d2, d3, d4, d5] => { results := [.lit (.bool false)], args := [d1, d2, d3, d4, d5] }
  | _ => none }
def BodyMovesWrongFalsely : Prop := bodyMovesRow.holds Tryz.pinned (OpenSpec.ofChange bodyMovesWrong)

/-- 'semaphorelaw23.BodyRuns': WHATEVER THE INPUT: true; the input reads as it did. -/
def bodyRunsSpec : ChangeSpec := { name := "bodyRuns", fn := fun _ => fun
  | [d1, d2, d3, d4, d5] => { results := [.lit (.bool true)], args := [d1, d2, d3, d4, d5] }
  | _ => none }
def bodyRunsRow : OpenClaim := { program := "ytceolngncngldaagreat", sum := "3c9484cff865dc824addc12dd2f382412d17386efbbeab8938e6515faa6fe028", func := "semaphore/semaphorelaw23.BodyRuns", spec := "bodyRuns", unfollowed := true, recurses := true, plainKeys := false, apart := false }
def BodyRunsSaid : Prop := bodyRunsRow.holds Tryz.pinned (OpenSpec.ofChange bodyRunsSpec)

/-- ITS FALSE NEIGHBOUR: 'it returns false'. Refute it at one input. -/
def bodyRunsWrong : ChangeSpec := { name := "bodyRuns", fn := fun _ => fun
  | [d1, d2, d3, d4, d5] => { results := [.lit (.bool false)], args := [d1, d2, d3, d4, d5] }
  | _ => none }
def BodyRunsWrongFalsely : Prop := bodyRunsRow.holds Tryz.pinned (OpenSpec.ofChange bodyRunsWrong)

/-- 'semaphorelaw23.BodyFar': WHATEVER THE INPUT: true; the input reads as it did. -/
def bodyFarSpec : ChangeSpec := { name := "bodyFar", fn := fun _ => fun
  | [d1, d2, d3, d4, d5] => { results := [.lit (.bool true)], args := [d1, d2, d3, d4, d5] }
  | _ => none }
def bodyFarRow : OpenClaim := { program := "ytceolngncngldaagreat", sum := "3c9484cff865dc824addc12dd2f382412d17386efbbeab8938e6515faa6fe028", func := "semaphore/semaphorelaw23.BodyFar", spec := "bodyFar", unfollowed := true, recurses := true, plainKeys := false, apart := false }
def BodyFarSaid : Prop := bodyFarRow.holds Tryz.pinned (OpenSpec.ofChange bodyFarSpec)

/-- ITS FALSE NEIGHBOUR: 'it returns false'. Refute it at one input. -/
def bodyFarWrong : ChangeSpec := { name := "bodyFar", fn := fun _ => fun
  | [d1, d2, d3, d4, d5] => { results := [.lit (.bool false)], args := [d1, d2, d3, d4, d5] }
  | _ => none }
def BodyFarWrongFalsely : Prop := bodyFarRow.holds Tryz.pinned (OpenSpec.ofChange bodyFarWrong)

/- THE SECOND FORM. 'bulk': how many values and letters a reading holds, each counted each time it is reached (what is shared counts as often as it is met; a slice's spare places count too). A statement '..UptoSaid' is the law's where the arguments, and the package variables that the reading takes, are together of bulk at most 1048576: NARROWER than '..Said'. Prove '..Said' where nothing that the law and all that it calls make is longer than what came in: it says more and counts as full. Else prove '..UptoSaid'. A law counts once. -/
mutual
def uptoBulk {H : Type} : DataW H → Nat
  | .lit (.string bytes) => bytes.length + 1
  | .lit _ => 1
  | .nil => 1
  | .ptr d => uptoBulk d + 1
  | .slice elems spare => uptoBulkAll elems + uptoBulkAll spare + 1
  | .agg parts => uptoBulkAll parts + 1
  | .iface _ d => uptoBulk d + 1
  | .map entries => uptoBulkEntries entries + 1
  | .held _ => 1
def uptoBulkAll {H : Type} : List (DataW H) → Nat
  | [] => 0
  | d :: r => uptoBulk d + uptoBulkAll r
def uptoBulkEntries {H : Type} : List (Lit × DataW H) → Nat
  | [] => 0
  | x :: r => uptoBulkEntry x + uptoBulkEntries r
def uptoBulkEntry {H : Type} : Lit × DataW H → Nat
  | (.string bytes, d) => bytes.length + uptoBulk d + 1
  | (_, d) => uptoBulk d + 1
 end
def uptoSmall : (H : Type) → List (DataW H) → Bool := fun _ ds => decide (uptoBulkAll ds ≤ 1048576)
def OpenSpec.upto (s : _root_.Go.ChangeSpec) : _root_.Go.OpenSpec := { _root_.Go.OpenSpec.ofChange s with cond := some uptoSmall }

/-- 'semaphorelaw24.LoopHeld', WHERE WHAT IT READS IS OF BULK AT MOST 1048576: true; the input reads as it did. -/
def loopHeldUptoRow : OpenClaim := { program := "ytceolngncngldaagreat", sum := "3c9484cff865dc824addc12dd2f382412d17386efbbeab8938e6515faa6fe028", func := "semaphore/semaphorelaw24.LoopHeld", spec := "loopHeld", unfollowed := true, recurses := true, plainKeys := false, apart := false, narrowed := true }
def LoopHeldUptoSaid : Prop := loopHeldUptoRow.holds Tryz.pinned (OpenSpec.upto loopHeldSpec)

/-- 'semaphorelaw24.LoopTells', WHERE WHAT IT READS IS OF BULK AT MOST 1048576: true; the input reads as it did. -/
def loopTellsUptoRow : OpenClaim := { program := "ytceolngncngldaagreat", sum := "3c9484cff865dc824addc12dd2f382412d17386efbbeab8938e6515faa6fe028", func := "semaphore/semaphorelaw24.LoopTells", spec := "loopTells", unfollowed := true, recurses := true, plainKeys := false, apart := false, narrowed := true }
def LoopTellsUptoSaid : Prop := loopTellsUptoRow.holds Tryz.pinned (OpenSpec.upto loopTellsSpec)

/-- 'semaphorelaw23.BodyStarts', WHERE WHAT IT READS IS OF BULK AT MOST 1048576: true; the input reads as it did. -/
def bodyStartsUptoRow : OpenClaim := { program := "ytceolngncngldaagreat", sum := "3c9484cff865dc824addc12dd2f382412d17386efbbeab8938e6515faa6fe028", func := "semaphore/semaphorelaw23.BodyStarts", spec := "bodyStarts", unfollowed := true, recurses := true, plainKeys := false, apart := false, narrowed := true }
def BodyStartsUptoSaid : Prop := bodyStartsUptoRow.holds Tryz.pinned (OpenSpec.upto bodyStartsSpec)

/-- 'semaphorelaw23.BodyTurns', WHERE WHAT IT READS IS OF BULK AT MOST 1048576: true; the input reads as it did. -/
def bodyTurnsUptoRow : OpenClaim := { program := "ytceolngncngldaagreat", sum := "3c9484cff865dc824addc12dd2f382412d17386efbbeab8938e6515faa6fe028", func := "semaphore/semaphorelaw23.BodyTurns", spec := "bodyTurns", unfollowed := true, recurses := true, plainKeys := false, apart := false, narrowed := true }
def BodyTurnsUptoSaid : Prop := bodyTurnsUptoRow.holds Tryz.pinned (OpenSpec.upto bodyTurnsSpec)

/-- 'semaphorelaw23.BodyTwo', WHERE WHAT IT READS IS OF BULK AT MOST 1048576: true; the input reads as it did. -/
def bodyTwoUptoRow : OpenClaim := { program := "ytceolngncngldaagreat", sum := "3c9484cff865dc824addc12dd2f382412d17386efbbeab8938e6515faa6fe028", func := "semaphore/semaphorelaw23.BodyTwo", spec := "bodyTwo", unfollowed := true, recurses := true, plainKeys := false, apart := false, narrowed := true }
def BodyTwoUptoSaid : Prop := bodyTwoUptoRow.holds Tryz.pinned (OpenSpec.upto bodyTwoSpec)

/-- 'semaphorelaw23.BodyStill', WHERE WHAT IT READS IS OF BULK AT MOST 1048576: true; the input reads as it did. -/
def bodyStillUptoRow : OpenClaim := { program := "ytceolngncngldaagreat", sum := "3c9484cff865dc824addc12dd2f382412d17386efbbeab8938e6515faa6fe028", func := "semaphore/semaphorelaw23.BodyStill", spec := "bodyStill", unfollowed := true, recurses := true, plainKeys := false, apart := false, narrowed := true }
def BodyStillUptoSaid : Prop := bodyStillUptoRow.holds Tryz.pinned (OpenSpec.upto bodyStillSpec)

/-- 'semaphorelaw23.BodyMoves', WHERE WHAT IT READS IS OF BULK AT MOST 1048576: true; the input reads as it did. -/
def bodyMovesUptoRow : OpenClaim := { program := "ytceolngncngldaagreat", sum := "3c9484cff865dc824addc12dd2f382412d17386efbbeab8938e6515faa6fe028", func := "semaphore/semaphorelaw23.BodyMoves", spec := "bodyMoves", unfollowed := true, recurses := true, plainKeys := false, apart := false, narrowed := true }
def BodyMovesUptoSaid : Prop := bodyMovesUptoRow.holds Tryz.pinned (OpenSpec.upto bodyMovesSpec)

/-- 'semaphorelaw23.BodyRuns', WHERE WHAT IT READS IS OF BULK AT MOST 1048576: true; the input reads as it did. -/
def bodyRunsUptoRow : OpenClaim := { program := "ytceolngncngldaagreat", sum := "3c9484cff865dc824addc12dd2f382412d17386efbbeab8938e6515faa6fe028", func := "semaphore/semaphorelaw23.BodyRuns", spec := "bodyRuns", unfollowed := true, recurses := true, plainKeys := false, apart := false, narrowed := true }
def BodyRunsUptoSaid : Prop := bodyRunsUptoRow.holds Tryz.pinned (OpenSpec.upto bodyRunsSpec)

/-- 'semaphorelaw23.BodyFar', WHERE WHAT IT READS IS OF BULK AT MOST 1048576: true; the input reads as it did. -/
def bodyFarUptoRow : OpenClaim := { program := "ytceolngncngldaagreat", sum := "3c9484cff865dc824addc12dd2f382412d17386efbbeab8938e6515faa6fe028", func := "semaphore/semaphorelaw23.BodyFar", spec := "bodyFar", unfollowed := true, recurses := true, plainKeys := false, apart := false, narrowed := true }
def BodyFarUptoSaid : Prop := bodyFarUptoRow.holds Tryz.pinned (OpenSpec.upto bodyFarSpec)

end Rows
end Go.Proofs.YtceolngncngldaaGreat
