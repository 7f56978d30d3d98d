/- FlankAgain answers true for every input, and leaves its arguments as they were: the given statement FlankAgainSaid. No condition. -/
import Derived.Test.YtoofmfiallkmbaaRows
import Derived.Test.YtoofmfiallkmbaaJ6
set_option linter.unusedVariables false
namespace Go.Proofs.Ytoofmfiallkmbaa
open Go Go.E Go.ChangeShapes Go.WideShapes Go.ChangeAt Go.RowKit

theorem ownFlankAgain : ownKnob Try.prog.godebug = none := by kernel_rfl

theorem laidOutFlankAgain : laidOutB Try.prog = true := by kernel_rfl

set_option maxRecDepth 100000 in
theorem contractFlankAgain (H : Type) (enc : TypeId × Value → H) (W : World) (base : Nat) (args : Array Value) (ds gs : List (DataW H)) (before : List MemPlace)
    (hval : ∀ (j : Nat) t v, Try.f6.params[j]? = some t → args[j]? = some v → Value.okWide Try.prog W .any base t v)
    (hW : DataW.Whole enc Try.prog Try.f6.params.toList Rows.flankAgainSpec.vars false W args.toList ds gs before) :
    Calls Try.prog 6 args W fun e W' => ∃ v, e = .returned v ∧ Rows.flankAgainSpec.post enc Try.prog Try.f6 false true false false W args v W' := by
  have hW1 := hW
  obtain ⟨p, q, hA0, hV, hpq, hfz, hnd⟩ := hW
  have hA : DataW.TrodAll enc Try.prog W 0 (fun _ => true) true [27, 5, 34, 34, 33, 4] args.toList ds p := hA0
  rw [Try.params6] at hval
  obtain ⟨v0, vs0, d0, ds0, p0, q0, hv0, hd0, hp0, t0, r0⟩ := trodAll_cons hA
  obtain ⟨v1, vs1, d1, ds1, p1, q1, hv1, hd1, hp1, t1, r1⟩ := trodAll_cons r0
  obtain ⟨v2, vs2, d2, ds2, p2, q2, hv2, hd2, hp2, t2, r2⟩ := trodAll_cons r1
  obtain ⟨v3, vs3, d3, ds3, p3, q3, hv3, hd3, hp3, t3, r3⟩ := trodAll_cons r2
  obtain ⟨v4, vs4, d4, ds4, p4, q4, hv4, hd4, hp4, t4, r4⟩ := trodAll_cons r3
  obtain ⟨v5, vs5, d5, ds5, p5, q5, hv5, hd5, hp5, t5, r5⟩ := trodAll_cons r4
  obtain ⟨hv, hd, -⟩ := trodAll_nil r5
  obtain rfl : args = #[v0, v1, v2, v3, v4, v5] := by
    apply Array.ext'
    simp only [hv0, hv1, hv2, hv3, hv4, hv5, hv]
  obtain rfl : ds = [d0, d1, d2, d3, d4, d5] := by simp only [hd0, hd1, hd2, hd3, hd4, hd5, hd]
  have o0 := hval 0 27 v0 (by simp) (by simp)
  obtain ⟨c0, ht0, hr0⟩ := open_ty (env := env) tts_ok good_27 o0 t0
  obtain ⟨x0, rfl, k0⟩ := ty_27 _ _ ht0
  have o1 := hval 1 5 v1 (by simp) (by simp)
  obtain ⟨c1, ht1, hr1⟩ := open_ty (env := env) tts_ok good_5 o1 t1
  obtain ⟨x1, rfl, k1⟩ := ty_5 _ _ ht1
  have o2 := hval 2 34 v2 (by simp) (by simp)
  obtain ⟨c2, ht2, hr2⟩ := open_ty (env := env) tts_ok good_34 o2 t2
  obtain ⟨x2, rfl, k2⟩ := ty_34 _ _ ht2
  have o3 := hval 3 34 v3 (by simp) (by simp)
  obtain ⟨c3, ht3, hr3⟩ := open_ty (env := env) tts_ok good_34 o3 t3
  obtain ⟨x3, rfl, k3⟩ := ty_34 _ _ ht3
  have o4 := hval 4 33 v4 (by simp) (by simp)
  obtain ⟨c4, ht4, hr4⟩ := open_ty (env := env) tts_ok good_33 o4 t4
  obtain ⟨x4, rfl, k4⟩ := ty_33 _ _ ht4
  have o5 := hval 5 4 v5 (by simp) (by simp)
  obtain ⟨c5, ht5, hr5⟩ := open_ty (env := env) tts_ok good_4 o5 t5
  obtain ⟨x5, rfl, k5⟩ := ty_4 _ _ ht5
  obtain ⟨rfl, -⟩ := trodVars_none hV
  have hf := f_L9_FlankAgain x0 x1 x2 x3 x4 x5 _ (FlankAgain_true x0 x1 x2 x3 x4 x5 k1)
  refine (hf.run (fun _ => False) W #[v0, v1, v2, v3, v4, v5] (fun _ h => h.elim) rfl fun i v d hi hj => ?_).mono ?_
  · match i, hi, hj with
    | 0, hi, hj => cases hi; cases hj; exact hr0
    | 1, hi, hj => cases hi; cases hj; exact hr1
    | 2, hi, hj => cases hi; cases hj; exact hr2
    | 3, hi, hj => cases hi; cases hj; exact hr3
    | 4, hi, hj => cases hi; cases hj; exact hr4
    | 5, hi, hj => cases hi; cases hj; exact hr5
    | i + 6, hi, _ => simp at hi
  · rintro e W' ⟨v, r, rfl, hrel, rfl, hb⟩
    cases hrel
    exact ⟨_, rfl, post_bool laidOutFlankAgain (by kernel_rfl) rfl (show Try.f6.resultTypes = #[4] from rfl) Try.underlying4 hW1 rfl rfl rfl hb⟩

set_option maxRecDepth 100000 in
theorem liftedFlankAgain (os : Os) (started : os.Started) (H : Type) (enc : TypeId × Value → H) :
    ReturnsInHanded {} Try.checked os 6 .any (Rows.flankAgainSpec.pre6 enc Try.prog Try.f6 Rows.flankAgainRow.domain false) (Rows.flankAgainSpec.post enc Try.prog Try.f6 false true false false) := by
  refine returnsInHanded_of_change (C := Try.checked) ownFlankAgain started (by kernel_rfl) Try.func6
    (ChangeSpec.witness6 (enc := enc) (C := Try.checked) false ⟨#[], #[.agg #[.slice none 0 0, .slice none 0 0, .slice none 0 0, .slice none 0 0, .int .i64 0, .int .i64 0, .int .i64 0, .int .i64 0, .bool false], .int .u8 0, .slice none 0 0, .slice none 0 0, .slice none 0 0, .bool false], []⟩ 8 (by kernel_rfl) (by kernel_rfl) (by kernel_rfl) (by kernel_rfl)) ?_
  intro W base args ds gs before hval hW _ _
  exact contractFlankAgain H enc W base args ds gs before hval hW

theorem flankAgain_holds : Rows.FlankAgainSaid :=
  OpenClaim.holds_of_wide 6 Try.f6 rfl rfl rfl rfl rfl rfl rfl ⟨rfl, rfl, rfl, rfl, rfl⟩ rfl rfl rfl rfl rfl (by kernel_rfl) Try.func6 (by kernel_rfl)
    (of_decide_eq_true (by kernel_rfl)) (by unfold Func.isWrapper; first | (rw [if_pos (by decide +kernel)]; kernel_rfl) | (rw [if_neg (by decide +kernel)]; exact ⟨rfl, rfl⟩))
    (fun os started H enc _ => liftedFlankAgain os started H enc)

#print axioms flankAgain_holds
end Go.Proofs.Ytoofmfiallkmbaa
