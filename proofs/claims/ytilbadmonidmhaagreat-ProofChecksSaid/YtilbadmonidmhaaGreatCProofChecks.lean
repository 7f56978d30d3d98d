/- ProofChecks answers true for every input, and leaves its arguments as they were: the given statement ProofChecksSaid. No condition. -/
import Derived.Test.YtilbadmonidmhaaGreatRows
import Derived.Test.YtilbadmonidmhaaGreatJ6
set_option linter.unusedVariables false
namespace Go.Proofs.YtilbadmonidmhaaGreat
open Go Go.E Go.ChangeShapes Go.WideShapes Go.ChangeAt Go.RowKit
theorem SK : ownKnob Tryz.prog.godebug = none := by kernel_rfl
theorem PO : laidOutB Tryz.prog = true := by kernel_rfl
set_option maxRecDepth 100000 in
theorem OH (H : Type) (enc : TypeId × Value -> H) (W : World) (base : Nat) (args : Array Value) (ds gs : List (DataW H)) (before : List MemPlace)
  (hval : ∀ (j : Nat) t v, Tryz.f6.params[j]? = some t -> args[j]? = some v -> Value.okWide Tryz.prog W .any base t v)
  (hW : DataW.Whole enc Tryz.prog Tryz.f6.params.toList Rows.proofChecksSpec.vars false W args.toList ds gs before) :
  Calls Tryz.prog 6 args W fun e W' => ∃ v, e = .returned v /\ Rows.proofChecksSpec.post enc Tryz.prog Tryz.f6 false true false false W args v W' := by
 have hW1 := hW
 obtain ⟨p, q, hA0, hV, hpq, hfz, hnd⟩ := hW
 have hA : DataW.TrodAll enc Tryz.prog W 0 (fun _ => true) true [68] args.toList ds p := hA0
 rw [Tryz.params6] at hval
 obtain ⟨v0, vs0, d0, ds0, p0, q0, hv0, hd0, hp0, t0, r0⟩ := trodAll_cons hA
 obtain ⟨hv, hd, -⟩ := trodAll_nil r0
 obtain rfl : args = #[v0] := by
  apply Array.ext'
  simp only [hv0, hv]
 obtain rfl : ds = [d0] := by simp only [hd0, hd]
 have o0 := hval 0 68 v0 (by simp) (by simp)
 obtain ⟨c0, ht0, hr0⟩ := ZU (AE := AE) XZ Zi o0 t0
 obtain ⟨x0, rfl, k0⟩ := AAm _ _ ht0
 obtain ⟨rfl, -⟩ := trodVars_none hV
 have hf := Pl x0 _ (QN x0)
 refine (hf.run (fun _ => False) W #[v0] (fun _ h => h.elim) rfl fun i v d hi hj => ?_).mono ?_
 .match i, hi, hj with
  | 0, hi, hj => cases hi; cases hj; exact hr0
  | i + 1, hi, _ => simp at hi
 rintro e W' ⟨v, r, rfl, hrel, rfl, hb⟩
 cases hrel
 exact ⟨_, rfl, Xa PO (by kernel_rfl) rfl (show Tryz.f6.resultTypes = #[4] from rfl) Tryz.underlying4 hW1 rfl rfl rfl hb⟩
set_option maxRecDepth 100000 in
theorem Po (os : Os) (started : os.Started) (H : Type) (enc : TypeId × Value -> H) :
  ReturnsInHanded {} Tryz.checked os 6 .any (Rows.proofChecksSpec.pre6 enc Tryz.prog Tryz.f6 Rows.proofChecksRow.domain false) (Rows.proofChecksSpec.post enc Tryz.prog Tryz.f6 false true false false) := by
 refine returnsInHanded_of_change (C := Tryz.checked) SK started (by kernel_rfl) Tryz.func6
  (ChangeSpec.witness6 (enc := enc) (C := Tryz.checked) false ⟨#[], #[.agg #[.slice none 0 0, .slice none 0 0, .slice none 0 0, .slice none 0 0, .int .i64 0, .int .i64 0, .int .i64 0, .int .i64 0, .bool false, .slice none 0 0]], []⟩ 8 (by kernel_rfl) (by kernel_rfl) (by kernel_rfl) (by kernel_rfl)) ?_
 intro W base args ds gs before hval hW _ _
 exact OH H enc W base args ds gs before hval hW
theorem proofChecks_holds : Rows.ProofChecksSaid :=
 OpenClaim.holds_of_wide 6 Tryz.f6 rfl rfl rfl rfl rfl rfl rfl ⟨rfl, rfl, rfl, rfl, rfl⟩ rfl rfl rfl rfl rfl (by kernel_rfl) Tryz.func6 (by kernel_rfl)
  (of_decide_eq_true (by kernel_rfl)) (by unfold Func.isWrapper; first | (rw [if_pos (by decide +kernel)]; kernel_rfl) | (rw [if_neg (by decide +kernel)]; exact ⟨rfl, rfl⟩))
  (fun os started H enc _ => Po os started H enc)
#print axioms proofChecks_holds
end Go.Proofs.YtilbadmonidmhaaGreat
