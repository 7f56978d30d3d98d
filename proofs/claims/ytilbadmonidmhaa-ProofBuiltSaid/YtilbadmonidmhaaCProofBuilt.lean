/- ProofBuilt answers true for every input, and leaves its arguments as they were: the given statement ProofBuiltSaid. No condition. -/
import Derived.Test.YtilbadmonidmhaaRows
import Derived.Test.YtilbadmonidmhaaJ5
set_option linter.unusedVariables false
namespace Go.Proofs.Ytilbadmonidmhaa
open Go Go.E Go.ChangeShapes Go.WideShapes Go.ChangeAt Go.RowKit
theorem Qj : ownKnob Try.prog.godebug = none := by kernel_rfl
theorem Nf : laidOutB Try.prog = true := by kernel_rfl
set_option maxRecDepth 100000 in
theorem NK (H : Type) (enc : TypeId × Value -> H) (W : World) (base : Nat) (args : Array Value) (ds gs : List (DataW H)) (before : List MemPlace)
  (hval : ∀ (j : Nat) t v, Try.f9.params[j]? = some t -> args[j]? = some v -> Value.okWide Try.prog W .any base t v)
  (hW : DataW.Whole enc Try.prog Try.f9.params.toList Rows.proofBuiltSpec.vars false W args.toList ds gs before) :
  Calls Try.prog 9 args W fun e W' => ∃ v, e = .returned v /\ Rows.proofBuiltSpec.post enc Try.prog Try.f9 false true false false W args v W' := by
 have hW1 := hW
 obtain ⟨p, q, hA0, hV, hpq, hfz, hnd⟩ := hW
 have hA : DataW.TrodAll enc Try.prog W 0 (fun _ => true) true [27] args.toList ds p := hA0
 rw [Try.params9] at hval
 obtain ⟨v0, vs0, d0, ds0, p0, q0, hv0, hd0, hp0, t0, r0⟩ := trodAll_cons hA
 obtain ⟨hv, hd, -⟩ := trodAll_nil r0
 obtain rfl : args = #[v0] := by
  apply Array.ext'
  simp only [hv0, hv]
 obtain rfl : ds = [d0] := by simp only [hd0, hd]
 have o0 := hval 0 27 v0 (by simp) (by simp)
 obtain ⟨c0, ht0, hr0⟩ := WL (AB := AB) UO WZ o0 t0
 obtain ⟨x0, rfl, k0⟩ := Xa _ _ ht0
 obtain ⟨rfl, -⟩ := trodVars_none hV
 have hf := N8 x0 _ (PL x0)
 refine (hf.run (fun _ => False) W #[v0] (fun _ h => h.elim) rfl fun i v d hi hj => ?_).mono ?_
 .match i, hi, hj with
  | 0, hi, hj => cases hi; cases hj; exact hr0
  | i + 1, hi, _ => simp at hi
 rintro e W' ⟨v, r, rfl, hrel, rfl, hb⟩
 cases hrel
 exact ⟨_, rfl, UP Nf (by kernel_rfl) rfl (show Try.f9.resultTypes = #[4] from rfl) Try.underlying4 hW1 rfl rfl rfl hb⟩
set_option maxRecDepth 100000 in
theorem OD (os : Os) (started : os.Started) (H : Type) (enc : TypeId × Value -> H) :
  ReturnsInHanded {} Try.checked os 9 .any (Rows.proofBuiltSpec.pre6 enc Try.prog Try.f9 Rows.proofBuiltRow.domain false) (Rows.proofBuiltSpec.post enc Try.prog Try.f9 false true false false) := by
 refine returnsInHanded_of_change (C := Try.checked) Qj started (by kernel_rfl) Try.func9
  (ChangeSpec.witness6 (enc := enc) (C := Try.checked) false ⟨#[], #[.agg #[.slice none 0 0, .slice none 0 0, .slice none 0 0, .slice none 0 0, .int .i64 0, .int .i64 0, .int .i64 0, .int .i64 0, .bool false]], []⟩ 8 (by kernel_rfl) (by kernel_rfl) (by kernel_rfl) (by kernel_rfl)) ?_
 intro W base args ds gs before hval hW _ _
 exact NK H enc W base args ds gs before hval hW
theorem proofBuilt_holds : Rows.ProofBuiltSaid :=
 OpenClaim.holds_of_wide 9 Try.f9 rfl rfl rfl rfl rfl rfl rfl ⟨rfl, rfl, rfl, rfl, rfl⟩ rfl rfl rfl rfl rfl (by kernel_rfl) Try.func9 (by kernel_rfl)
  (of_decide_eq_true (by kernel_rfl)) (by unfold Func.isWrapper; first | (rw [if_pos (by decide +kernel)]; kernel_rfl) | (rw [if_neg (by decide +kernel)]; exact ⟨rfl, rfl⟩))
  (fun os started H enc _ => OD os started H enc)
#print axioms proofBuilt_holds
end Go.Proofs.Ytilbadmonidmhaa
