/- LockPlays answers true for every input, and leaves its arguments as they were: the given statement LockPlaysSaid. No condition. -/
import Derived.Test.YtilbadmonidmhaaGreatRows
import Derived.Test.YtilbadmonidmhaaGreatJ5
set_option linter.unusedVariables false
namespace Go.Proofs.YtilbadmonidmhaaGreat
open Go Go.E Go.ChangeShapes Go.WideShapes Go.ChangeAt Go.RowKit
theorem SS : ownKnob Tryz.prog.godebug = none := by kernel_rfl
theorem OW : laidOutB Tryz.prog = true := by kernel_rfl
set_option maxRecDepth 100000 in
theorem Nn (H : Type) (enc : TypeId × Value -> H) (W : World) (base : Nat) (args : Array Value) (ds gs : List (DataW H)) (before : List MemPlace)
  (hval : ∀ (j : Nat) t v, Tryz.f4.params[j]? = some t -> args[j]? = some v -> Value.okWide Tryz.prog W .any base t v)
  (hW : DataW.Whole enc Tryz.prog Tryz.f4.params.toList Rows.lockPlaysSpec.vars false W args.toList ds gs before) :
  Calls Tryz.prog 4 args W fun e W' => ∃ v, e = .returned v /\ Rows.lockPlaysSpec.post enc Tryz.prog Tryz.f4 false true false false W args v W' := by
 have hW1 := hW
 obtain ⟨p, q, hA0, hV, hpq, hfz, hnd⟩ := hW
 have hA : DataW.TrodAll enc Tryz.prog W 0 (fun _ => true) true [3, 46] args.toList ds p := hA0
 rw [Tryz.params4] at hval
 obtain ⟨v0, vs0, d0, ZO, p0, q0, hv0, hd0, hp0, t0, r0⟩ := trodAll_cons hA
 obtain ⟨v1, vs1, d1, Y8, p1, q1, hv1, hd1, hp1, t1, r1⟩ := trodAll_cons r0
 obtain ⟨hv, hd, -⟩ := trodAll_nil r1
 obtain rfl : args = #[v0, v1] := by
  apply Array.ext'
  simp only [hv0, hv1, hv]
 obtain rfl : ds = [d0, d1] := by simp only [hd0, hd1, hd]
 have o0 := hval 0 3 v0 (by simp) (by simp)
 obtain ⟨c0, ht0, hr0⟩ := TL (AB := AB) Rm Yd o0 t0
 obtain ⟨x0, rfl, k0⟩ := Hr _ _ ht0
 have o1 := hval 1 46 v1 (by simp) (by simp)
 obtain ⟨c1, ht1, hr1⟩ := TL (AB := AB) Rm Xf o1 t1
 obtain ⟨x1, rfl, k1⟩ := Y1 _ _ ht1
 obtain ⟨rfl, -⟩ := trodVars_none hV
 have hf := PD x0 x1 _ (P3 XK x0 x1)
 refine (hf.run (fun _ => False) W #[v0, v1] (fun _ h => h.elim) rfl fun i v d hi hj => ?_).mono ?_
 .match i, hi, hj with
  | 0, hi, hj => cases hi; cases hj; exact hr0
  | 1, hi, hj => cases hi; cases hj; exact hr1
  | i + 2, hi, _ => simp at hi
 rintro e W' ⟨v, r, rfl, hrel, rfl, hb⟩
 cases hrel
 exact ⟨_, rfl, Ut OW (by kernel_rfl) rfl (show Tryz.f4.resultTypes = #[4] from rfl) Tryz.underlying4 hW1 rfl rfl rfl hb⟩
set_option maxRecDepth 100000 in
theorem PZ (os : Os) (started : os.Started) (H : Type) (enc : TypeId × Value -> H) :
  ReturnsInHanded {} Tryz.checked os 4 .any (Rows.lockPlaysSpec.pre6 enc Tryz.prog Tryz.f4 Rows.lockPlaysRow.domain false) (Rows.lockPlaysSpec.post enc Tryz.prog Tryz.f4 false true false false) := by
 refine returnsInHanded_of_change (C := Tryz.checked) SS started (by kernel_rfl) Tryz.func4
  (ChangeSpec.witness6 (enc := enc) (C := Tryz.checked) false ⟨#[], #[.int .i64 0, .slice none 0 0], []⟩ 8 (by kernel_rfl) (by kernel_rfl) (by kernel_rfl) (by kernel_rfl)) ?_
 intro W base args ds gs before hval hW _ _
 exact Nn H enc W base args ds gs before hval hW
theorem lockPlays_holds : Rows.LockPlaysSaid :=
 OpenClaim.holds_of_wide 4 Tryz.f4 rfl rfl rfl rfl rfl rfl rfl ⟨rfl, rfl, rfl, rfl, rfl⟩ rfl rfl rfl rfl rfl (by kernel_rfl) Tryz.func4 (by kernel_rfl)
  (of_decide_eq_true (by kernel_rfl)) (by unfold Func.isWrapper; first | (rw [if_pos (by decide +kernel)]; kernel_rfl) | (rw [if_neg (by decide +kernel)]; exact ⟨rfl, rfl⟩))
  (fun os started H enc _ => PZ os started H enc)
#print axioms lockPlays_holds
end Go.Proofs.YtilbadmonidmhaaGreat
