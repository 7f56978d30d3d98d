/- ProofLacks answers true for every input, and leaves its arguments as they were: the given statement ProofLacksSaid. No condition. -/
import Derived.Test.YtilbadmonidmhaaRows
import Derived.Test.YtilbadmonidmhaaJ5
set_option linter.unusedVariables false
namespace Go.Proofs.Ytilbadmonidmhaa
open Go Go.E Go.ChangeShapes Go.WideShapes Go.ChangeAt Go.RowKit
theorem Qj : ownKnob Try.prog.godebug = none := by kernel_rfl
theorem Nh : laidOutB Try.prog = true := by kernel_rfl
set_option maxRecDepth 100000 in
theorem NL (H : Type) (enc : TypeId × Value -> H) (W : World) (base : Nat) (args : Array Value) (ds gs : List (DataW H)) (before : List MemPlace)
  (hval : ∀ (j : Nat) t v, Try.f10.params[j]? = some t -> args[j]? = some v -> Value.okWide Try.prog W .any base t v)
  (hW : DataW.Whole enc Try.prog Try.f10.params.toList Rows.proofLacksSpec.vars false W args.toList ds gs before) :
  Calls Try.prog 10 args W fun e W' => ∃ v, e = .returned v /\ Rows.proofLacksSpec.post enc Try.prog Try.f10 false true false false W args v W' := by
 have hW1 := hW
 obtain ⟨p, q, hA0, hV, hpq, hfz, hnd⟩ := hW
 have hA : DataW.TrodAll enc Try.prog W 0 (fun _ => true) true [27, 5] args.toList ds p := hA0
 rw [Try.params10] at hval
 obtain ⟨v0, vs0, d0, ds0, p0, q0, hv0, hd0, hp0, t0, r0⟩ := trodAll_cons hA
 obtain ⟨v1, vs1, d1, ds1, p1, q1, hv1, hd1, hp1, t1, r1⟩ := trodAll_cons r0
 obtain ⟨hv, hd, -⟩ := trodAll_nil r1
 obtain rfl : args = #[v0, v1] := by
  apply Array.ext'
  simp only [hv0, hv1, hv]
 obtain rfl : ds = [d0, d1] := by simp only [hd0, hd1, hd]
 have o0 := hval 0 27 v0 (by simp) (by simp)
 obtain ⟨c0, ht0, hr0⟩ := Sw (AB := AB) RV WY o0 t0
 obtain ⟨x0, rfl, k0⟩ := Xa _ _ ht0
 have o1 := hval 1 5 v1 (by simp) (by simp)
 obtain ⟨c1, ht1, hr1⟩ := Sw (AB := AB) RV W9 o1 t1
 obtain ⟨x1, rfl, k1⟩ := Xw _ _ ht1
 obtain ⟨rfl, -⟩ := trodVars_none hV
 have hf := OD x0 x1 _ (PQ x0 x1 k1)
 refine (hf.run (fun _ => False) W #[v0, v1] (fun _ h => h.elim) rfl fun i v d hi hj => ?_).mono ?_
 .match i, hi, hj with
  | 0, hi, hj => cases hi; cases hj; exact hr0
  | 1, hi, hj => cases hi; cases hj; exact hr1
  | i + 2, hi, _ => simp at hi
 rintro e W' ⟨v, r, rfl, hrel, rfl, hb⟩
 cases hrel
 exact ⟨_, rfl, UQ Nh (by kernel_rfl) rfl (show Try.f10.resultTypes = #[4] from rfl) Try.underlying4 hW1 rfl rfl rfl hb⟩
set_option maxRecDepth 100000 in
theorem OI (os : Os) (started : os.Started) (H : Type) (enc : TypeId × Value -> H) :
  ReturnsInHanded {} Try.checked os 10 .any (Rows.proofLacksSpec.pre6 enc Try.prog Try.f10 Rows.proofLacksRow.domain false) (Rows.proofLacksSpec.post enc Try.prog Try.f10 false true false false) := by
 refine returnsInHanded_of_change (C := Try.checked) Qj started (by kernel_rfl) Try.func10
  (ChangeSpec.witness6 (enc := enc) (C := Try.checked) false ⟨#[], #[.agg #[.slice none 0 0, .slice none 0 0, .slice none 0 0, .slice none 0 0, .int .i64 0, .int .i64 0, .int .i64 0, .int .i64 0, .bool false], .int .u8 0], []⟩ 8 (by kernel_rfl) (by kernel_rfl) (by kernel_rfl) (by kernel_rfl)) ?_
 intro W base args ds gs before hval hW _ _
 exact NL H enc W base args ds gs before hval hW
theorem proofLacks_holds : Rows.ProofLacksSaid :=
 OpenClaim.holds_of_wide 10 Try.f10 rfl rfl rfl rfl rfl rfl rfl ⟨rfl, rfl, rfl, rfl, rfl⟩ rfl rfl rfl rfl rfl (by kernel_rfl) Try.func10 (by kernel_rfl)
  (of_decide_eq_true (by kernel_rfl)) (by unfold Func.isWrapper; first | (rw [if_pos (by decide +kernel)]; kernel_rfl) | (rw [if_neg (by decide +kernel)]; exact ⟨rfl, rfl⟩))
  (fun os started H enc _ => OI os started H enc)
#print axioms proofLacks_holds
end Go.Proofs.Ytilbadmonidmhaa
