/-
  No cell of these rows narrows 'for every input' (looked for: loops, veiled, ifaces, maps, wideKeys, modest, calm, conditions, laid).
  DERIVED. THE GIVEN ROWS OF THIS SEAT. 8 by the template 'for every input the law returns true; each argument reads behind the call as it read before'; 0 by the template 'total and deterministic' (their statements: YtilbadmonidmhaaTotals.lean).
  GIVEN WITH THE SEED: the statements are not yours to turn. If you find one false, say at which input.
  Laid BY PROGRAM, IN A SANDBOX (cutbox-rows.mjs): the forced cells as the released guide's own fill.sh prints them over the translation f2ead34a14c32276… (all of the seat's roots in one cut). By AI agents, Wed Nov 11 2026. No macro, syntax, notation, axiom, sorry.
-/
import Derived.Test.YtilbadmonidmhaaChecked
import GoSem.Claim
import GoSem.ClaimJoined
import GoSem.ClaimMapViews
import Derived.JoinedTies
import Derived.KernelRfl
namespace Go.Proofs.Ytilbadmonidmhaa
/- THE CELL 'sum', in the pinned program and in every row, IS THE sha256 OF THE DUMP (.gsa) THAT YtilbadmonidmhaaProg.lean LOADS. Nothing in Lean hashes anything: it is a label: what it is worth is what the hold of that sum in a sandbox is worth. -/
noncomputable def Try.pinned : Pinned := { name := "ytilbadmonidmhaa", sum := "f2ead34a14c32276f8009172d62c7c1429426337925be55da0abc27224e08381", checked := Try.checked }
namespace Rows
def none {H : Type} : Left H := { results := [], args := [] }

/-- 'semaphorelaw9.FlankOfs': WHATEVER THE INPUT: true; the input reads as it did. -/
def flankOfsSpec : ChangeSpec := { name := "flankOfs", fn := fun _ => fun
  | [d1, d2] => { results := [.lit (.bool true)], args := [d1, d2] }
  | _ => none }
def flankOfsRow : OpenClaim := { program := "ytilbadmonidmhaa", sum := "f2ead34a14c32276f8009172d62c7c1429426337925be55da0abc27224e08381", func := "semaphore/semaphorelaw9.FlankOfs", spec := "flankOfs", unfollowed := true, recurses := true, plainKeys := false, apart := false }
def FlankOfsSaid : Prop := flankOfsRow.holds Try.pinned (OpenSpec.ofChange flankOfsSpec)

/-- ITS FALSE NEIGHBOUR: 'it returns false'. Refute it at one input. -/
def flankOfsWrong : ChangeSpec := { name := "flankOfs", fn := fun _ => fun
  | [d1, d2] => { results := [.lit (.bool false)], args := [d1, d2] }
  | _ => none }
def FlankOfsWrongFalsely : Prop := flankOfsRow.holds Try.pinned (OpenSpec.ofChange flankOfsWrong)

/-- 'semaphorelaw9.FlankReady': WHATEVER THE INPUT: true; the input reads as it did. -/
def flankReadySpec : ChangeSpec := { name := "flankReady", fn := fun _ => fun
  | [d1, d2, d3] => { results := [.lit (.bool true)], args := [d1, d2, d3] }
  | _ => none }
def flankReadyRow : OpenClaim := { program := "ytilbadmonidmhaa", sum := "f2ead34a14c32276f8009172d62c7c1429426337925be55da0abc27224e08381", func := "semaphore/semaphorelaw9.FlankReady", spec := "flankReady", unfollowed := true, recurses := true, plainKeys := false, apart := false }
def FlankReadySaid : Prop := flankReadyRow.holds Try.pinned (OpenSpec.ofChange flankReadySpec)

/-- ITS FALSE NEIGHBOUR: 'it returns false'. Refute it at one input. -/
def flankReadyWrong : ChangeSpec := { name := "flankReady", fn := fun _ => fun
  | [d1, d2, d3] => { results := [.lit (.bool false)], args := [d1, d2, d3] }
  | _ => none }
def FlankReadyWrongFalsely : Prop := flankReadyRow.holds Try.pinned (OpenSpec.ofChange flankReadyWrong)

/-- 'semaphorelaw9.FlankOne': WHATEVER THE INPUT: true; the input reads as it did. -/
def flankOneSpec : ChangeSpec := { name := "flankOne", fn := fun _ => fun
  | [d1, d2, d3] => { results := [.lit (.bool true)], args := [d1, d2, d3] }
  | _ => none }
def flankOneRow : OpenClaim := { program := "ytilbadmonidmhaa", sum := "f2ead34a14c32276f8009172d62c7c1429426337925be55da0abc27224e08381", func := "semaphore/semaphorelaw9.FlankOne", spec := "flankOne", unfollowed := true, recurses := true, plainKeys := false, apart := false }
def FlankOneSaid : Prop := flankOneRow.holds Try.pinned (OpenSpec.ofChange flankOneSpec)

/-- ITS FALSE NEIGHBOUR: 'it returns false'. Refute it at one input. -/
def flankOneWrong : ChangeSpec := { name := "flankOne", fn := fun _ => fun
  | [d1, d2, d3] => { results := [.lit (.bool false)], args := [d1, d2, d3] }
  | _ => none }
def FlankOneWrongFalsely : Prop := flankOneRow.holds Try.pinned (OpenSpec.ofChange flankOneWrong)

/-- 'semaphorelaw14.LockApart': WHATEVER THE INPUT: true; the input reads as it did. -/
def lockApartSpec : ChangeSpec := { name := "lockApart", fn := fun _ => fun
  | [d1, d2, d3] => { results := [.lit (.bool true)], args := [d1, d2, d3] }
  | _ => none }
def lockApartRow : OpenClaim := { program := "ytilbadmonidmhaa", sum := "f2ead34a14c32276f8009172d62c7c1429426337925be55da0abc27224e08381", func := "semaphore/semaphorelaw14.LockApart", spec := "lockApart", recurses := true, plainKeys := false, apart := false }
def LockApartSaid : Prop := lockApartRow.holds Try.pinned (OpenSpec.ofChange lockApartSpec)

/-- ITS FALSE NEIGHBOUR: 'it returns false'. Refute it at one input. -/
def lockApartWrong : ChangeSpec := { name := "lockApart", fn := fun _ => fun
  | [d1, d2, d3] => { results := [.lit (.bool false)], args := [d1, d2, d3] }
  | _ => none }
def LockApartWrongFalsely : Prop := lockApartRow.holds Try.pinned (OpenSpec.ofChange lockApartWrong)

/-- 'semaphorelaw14.LockClash': WHATEVER THE INPUT: true; the input reads as it did. -/
def lockClashSpec : ChangeSpec := { name := "lockClash", fn := fun _ => fun
  | [d1, d2, d3] => { results := [.lit (.bool true)], args := [d1, d2, d3] }
  | _ => none }
def lockClashRow : OpenClaim := { program := "ytilbadmonidmhaa", sum := "f2ead34a14c32276f8009172d62c7c1429426337925be55da0abc27224e08381", func := "semaphore/semaphorelaw14.LockClash", spec := "lockClash", recurses := true, plainKeys := false, apart := false }
def LockClashSaid : Prop := lockClashRow.holds Try.pinned (OpenSpec.ofChange lockClashSpec)

/-- ITS FALSE NEIGHBOUR: 'it returns false'. Refute it at one input. -/
def lockClashWrong : ChangeSpec := { name := "lockClash", fn := fun _ => fun
  | [d1, d2, d3] => { results := [.lit (.bool false)], args := [d1, d2, d3] }
  | _ => none }
def LockClashWrongFalsely : Prop := lockClashRow.holds Try.pinned (OpenSpec.ofChange lockClashWrong)

/-- 'semaphorelaw14.LockBack': WHATEVER THE INPUT: true; the input reads as it did. -/
def lockBackSpec : ChangeSpec := { name := "lockBack", fn := fun _ => fun
  | [d1, d2, d3] => { results := [.lit (.bool true)], args := [d1, d2, d3] }
  | _ => none }
def lockBackRow : OpenClaim := { program := "ytilbadmonidmhaa", sum := "f2ead34a14c32276f8009172d62c7c1429426337925be55da0abc27224e08381", func := "semaphore/semaphorelaw14.LockBack", spec := "lockBack", recurses := true, plainKeys := false, apart := false }
def LockBackSaid : Prop := lockBackRow.holds Try.pinned (OpenSpec.ofChange lockBackSpec)

/-- ITS FALSE NEIGHBOUR: 'it returns false'. Refute it at one input. -/
def lockBackWrong : ChangeSpec := { name := "lockBack", fn := fun _ => fun
  | [d1, d2, d3] => { results := [.lit (.bool false)], args := [d1, d2, d3] }
  | _ => none }
def LockBackWrongFalsely : Prop := lockBackRow.holds Try.pinned (OpenSpec.ofChange lockBackWrong)

/-- 'semaphorelaw12.ProofBuilt': WHATEVER THE INPUT: true; the input reads as it did. -/
def proofBuiltSpec : ChangeSpec := { name := "proofBuilt", fn := fun _ => fun
  | [d] => { results := [.lit (.bool true)], args := [d] }
  | _ => none }
def proofBuiltRow : OpenClaim := { program := "ytilbadmonidmhaa", sum := "f2ead34a14c32276f8009172d62c7c1429426337925be55da0abc27224e08381", func := "semaphore/semaphorelaw12.ProofBuilt", spec := "proofBuilt", unfollowed := true, recurses := true, plainKeys := false, apart := false }
def ProofBuiltSaid : Prop := proofBuiltRow.holds Try.pinned (OpenSpec.ofChange proofBuiltSpec)

/-- ITS FALSE NEIGHBOUR: 'it returns false'. Refute it at one input. -/
def proofBuiltWrong : ChangeSpec := { name := "proofBuilt", fn := fun _ => fun
  | [d] => { results := [.lit (.bool false)], args := [d] }
  | _ => none }
def ProofBuiltWrongFalsely : Prop := proofBuiltRow.holds Try.pinned (OpenSpec.ofChange proofBuiltWrong)

/-- 'semaphorelaw12.ProofLacks': WHATEVER THE INPUT: true; the input reads as it did. -/
def proofLacksSpec : ChangeSpec := { name := "proofLacks", fn := fun _ => fun
  | [d1, d2] => { results := [.lit (.bool true)], args := [d1, d2] }
  | _ => none }
def proofLacksRow : OpenClaim := { program := "ytilbadmonidmhaa", sum := "f2ead34a14c32276f8009172d62c7c1429426337925be55da0abc27224e08381", func := "semaphore/semaphorelaw12.ProofLacks", spec := "proofLacks", unfollowed := true, recurses := true, plainKeys := false, apart := false }
def ProofLacksSaid : Prop := proofLacksRow.holds Try.pinned (OpenSpec.ofChange proofLacksSpec)

/-- ITS FALSE NEIGHBOUR: 'it returns false'. Refute it at one input. -/
def proofLacksWrong : ChangeSpec := { name := "proofLacks", fn := fun _ => fun
  | [d1, d2] => { results := [.lit (.bool false)], args := [d1, d2] }
  | _ => none }
def ProofLacksWrongFalsely : Prop := proofLacksRow.holds Try.pinned (OpenSpec.ofChange proofLacksWrong)

/- THE SECOND FORM. 'bulk': how many values and letters a reading holds, each counted each time it is reached (what is shared counts as often as it is met; a slice's spare places count too). A statement '..UptoSaid' is the law's where the arguments, and the package variables that the reading takes, are together of bulk at most 1048576: NARROWER than '..Said'. Prove '..Said' where nothing that the law and all that it calls make is longer than what came in: it says more and counts as full. Else prove '..UptoSaid'. A law counts once. -/
mutual
def uptoBulk {H : Type} : DataW H → Nat
  | .lit (.string bytes) => bytes.length + 1
  | .lit _ => 1
  | .nil => 1
  | .ptr d => uptoBulk d + 1
  | .slice elems spare => uptoBulkAll elems + uptoBulkAll spare + 1
  | .agg parts => uptoBulkAll parts + 1
  | .iface _ d => uptoBulk d + 1
  | .map entries => uptoBulkEntries entries + 1
  | .held _ => 1
def uptoBulkAll {H : Type} : List (DataW H) → Nat
  | [] => 0
  | d :: r => uptoBulk d + uptoBulkAll r
def uptoBulkEntries {H : Type} : List (Lit × DataW H) → Nat
  | [] => 0
  | x :: r => uptoBulkEntry x + uptoBulkEntries r
def uptoBulkEntry {H : Type} : Lit × DataW H → Nat
  | (.string bytes, d) => bytes.length + uptoBulk d + 1
  | (_, d) => uptoBulk d + 1
 end
def uptoSmall : (H : Type) → List (DataW H) → Bool := fun _ ds => decide (uptoBulkAll ds ≤ 1048576)
def OpenSpec.upto (s : _root_.Go.ChangeSpec) : _root_.Go.OpenSpec := { _root_.Go.OpenSpec.ofChange s with cond := some uptoSmall }

/-- 'semaphorelaw9.FlankOfs', WHERE WHAT IT READS IS OF BULK AT MOST 1048576: true; the input reads as it did. -/
def flankOfsUptoRow : OpenClaim := { program := "ytilbadmonidmhaa", sum := "f2ead34a14c32276f8009172d62c7c1429426337925be55da0abc27224e08381", func := "semaphore/semaphorelaw9.FlankOfs", spec := "flankOfs", unfollowed := true, recurses := true, plainKeys := false, apart := false, narrowed := true }
def FlankOfsUptoSaid : Prop := flankOfsUptoRow.holds Try.pinned (OpenSpec.upto flankOfsSpec)

/-- 'semaphorelaw9.FlankReady', WHERE WHAT IT READS IS OF BULK AT MOST 1048576: true; the input reads as it did. -/
def flankReadyUptoRow : OpenClaim := { program := "ytilbadmonidmhaa", sum := "f2ead34a14c32276f8009172d62c7c1429426337925be55da0abc27224e08381", func := "semaphore/semaphorelaw9.FlankReady", spec := "flankReady", unfollowed := true, recurses := true, plainKeys := false, apart := false, narrowed := true }
def FlankReadyUptoSaid : Prop := flankReadyUptoRow.holds Try.pinned (OpenSpec.upto flankReadySpec)

/-- 'semaphorelaw9.FlankOne', WHERE WHAT IT READS IS OF BULK AT MOST 1048576: true; the input reads as it did. -/
def flankOneUptoRow : OpenClaim := { program := "ytilbadmonidmhaa", sum := "f2ead34a14c32276f8009172d62c7c1429426337925be55da0abc27224e08381", func := "semaphore/semaphorelaw9.FlankOne", spec := "flankOne", unfollowed := true, recurses := true, plainKeys := false, apart := false, narrowed := true }
def FlankOneUptoSaid : Prop := flankOneUptoRow.holds Try.pinned (OpenSpec.upto flankOneSpec)

/-- 'semaphorelaw14.LockApart', WHERE WHAT IT READS IS OF BULK AT MOST 1048576: true; the input reads as it did. -/
def lockApartUptoRow : OpenClaim := { program := "ytilbadmonidmhaa", sum := "f2ead34a14c32276f8009172d62c7c1429426337925be55da0abc27224e08381", func := "semaphore/semaphorelaw14.LockApart", spec := "lockApart", recurses := true, plainKeys := false, apart := false, narrowed := true }
def LockApartUptoSaid : Prop := lockApartUptoRow.holds Try.pinned (OpenSpec.upto lockApartSpec)

/-- 'semaphorelaw14.LockClash', WHERE WHAT IT READS IS OF BULK AT MOST 1048576: true; the input reads as it did. -/
def lockClashUptoRow : OpenClaim := { program := "ytilbadmonidmhaa", sum := "f2ead34a14c32276f8009172d62c7c1429426337925be55da0abc27224e08381", func := "semaphore/semaphorelaw14.LockClash", spec := "lockClash", recurses := true, plainKeys := false, apart := false, narrowed := true }
def LockClashUptoSaid : Prop := lockClashUptoRow.holds Try.pinned (OpenSpec.upto lockClashSpec)

/-- 'semaphorelaw14.LockBack', WHERE WHAT IT READS IS OF BULK AT MOST 1048576: true; the input reads as it did. -/
def lockBackUptoRow : OpenClaim := { program := "ytilbadmonidmhaa", sum := "f2ead34a14c32276f8009172d62c7c1429426337925be55da0abc27224e08381", func := "semaphore/semaphorelaw14.LockBack", spec := "lockBack", recurses := true, plainKeys := false, apart := false, narrowed := true }
def LockBackUptoSaid : Prop := lockBackUptoRow.holds Try.pinned (OpenSpec.upto lockBackSpec)

/-- 'semaphorelaw12.ProofBuilt', WHERE WHAT IT READS IS OF BULK AT MOST 1048576: true; the input reads as it did. -/
def proofBuiltUptoRow : OpenClaim := { program := "ytilbadmonidmhaa", sum := "f2ead34a14c32276f8009172d62c7c1429426337925be55da0abc27224e08381", func := "semaphore/semaphorelaw12.ProofBuilt", spec := "proofBuilt", unfollowed := true, recurses := true, plainKeys := false, apart := false, narrowed := true }
def ProofBuiltUptoSaid : Prop := proofBuiltUptoRow.holds Try.pinned (OpenSpec.upto proofBuiltSpec)

/-- 'semaphorelaw12.ProofLacks', WHERE WHAT IT READS IS OF BULK AT MOST 1048576: true; the input reads as it did. -/
def proofLacksUptoRow : OpenClaim := { program := "ytilbadmonidmhaa", sum := "f2ead34a14c32276f8009172d62c7c1429426337925be55da0abc27224e08381", func := "semaphore/semaphorelaw12.ProofLacks", spec := "proofLacks", unfollowed := true, recurses := true, plainKeys := false, apart := false, narrowed := true }
def ProofLacksUptoSaid : Prop := proofLacksUptoRow.holds Try.pinned (OpenSpec.upto proofLacksSpec)

end Rows
end Go.Proofs.Ytilbadmonidmhaa
