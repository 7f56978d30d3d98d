/- WayChecks answers true for every input, and leaves its arguments as they were: the given statement WayChecksSaid. No condition. -/
import Derived.Test.YtlmjaeojocjhkaaGreatRows
import Derived.Test.YtlmjaeojocjhkaaGreatJ6
set_option linter.unusedVariables false
namespace Go.Proofs.YtlmjaeojocjhkaaGreat
open Go Go.E Go.ChangeShapes Go.WideShapes Go.ChangeAt Go.RowKit
theorem Vk : ownKnob Tryz.prog.godebug = none := by kernel_rfl
theorem Q8 : laidOutB Tryz.prog = true := by kernel_rfl
set_option maxRecDepth 100000 in
theorem QO (H : Type) (enc : TypeId × Value -> H) (W : World) (base : Nat) (args : Array Value) (ds gs : List (DataW H)) (before : List MemPlace)
  (hval : ∀ (j : Nat) t v, Tryz.f5.params[j]? = some t -> args[j]? = some v -> Value.okWide Tryz.prog W .any base t v)
  (hW : DataW.Whole enc Tryz.prog Tryz.f5.params.toList Rows.wayChecksSpec.vars false W args.toList ds gs before) :
  Calls Tryz.prog 5 args W fun e W' => ∃ v, e = .returned v /\ Rows.wayChecksSpec.post enc Tryz.prog Tryz.f5 false true false false W args v W' := by
 have hW1 := hW
 obtain ⟨p, q, hA0, hV, hpq, hfz, hnd⟩ := hW
 have hA : DataW.TrodAll enc Tryz.prog W 0 (fun _ => true) true [27, 31] args.toList ds p := hA0
 rw [Tryz.params5] at hval
 obtain ⟨v0, vs0, d0, ds0, p0, q0, hv0, hd0, hp0, t0, r0⟩ := trodAll_cons hA
 obtain ⟨v1, vs1, d1, ds1, p1, q1, hv1, hd1, hp1, t1, r1⟩ := trodAll_cons r0
 obtain ⟨hv, hd, -⟩ := trodAll_nil r1
 obtain rfl : args = #[v0, v1] := by
  apply Array.ext'
  simp only [hv0, hv1, hv]
 obtain rfl : ds = [d0, d1] := by simp only [hd0, hd1, hd]
 have o0 := hval 0 27 v0 (by simp) (by simp)
 obtain ⟨c0, ht0, hr0⟩ := Wr (AD := AD) Um AAx o0 t0
 obtain ⟨x0, rfl, k0⟩ := ACH _ _ ht0
 have o1 := hval 1 31 v1 (by simp) (by simp)
 obtain ⟨c1, ht1, hr1⟩ := Wr (AD := AD) Um AAy o1 t1
 obtain ⟨x1, rfl, k1⟩ := ACI _ _ ht1
 obtain ⟨rfl, -⟩ := trodVars_none hV
 have hf := Rr x0 x1 _ (Su x0 x1)
 refine (hf.run (fun _ => False) W #[v0, v1] (fun _ h => h.elim) rfl fun i v d hi hj => ?_).mono ?_
 .match i, hi, hj with
  | 0, hi, hj => cases hi; cases hj; exact hr0
  | 1, hi, hj => cases hi; cases hj; exact hr1
  | i + 2, hi, _ => simp at hi
 rintro e W' ⟨v, r, rfl, hrel, rfl, hb⟩
 cases hrel
 exact ⟨_, rfl, Yd Q8 (by kernel_rfl) rfl (show Tryz.f5.resultTypes = #[4] from rfl) Tryz.underlying4 hW1 rfl rfl rfl hb⟩
set_option maxRecDepth 100000 in
theorem SL (os : Os) (started : os.Started) (H : Type) (enc : TypeId × Value -> H) :
  ReturnsInHanded {} Tryz.checked os 5 .any (Rows.wayChecksSpec.pre6 enc Tryz.prog Tryz.f5 Rows.wayChecksRow.domain false) (Rows.wayChecksSpec.post enc Tryz.prog Tryz.f5 false true false false) := by
 refine returnsInHanded_of_change (C := Tryz.checked) Vk started (by kernel_rfl) Tryz.func5
  (ChangeSpec.witness6 (enc := enc) (C := Tryz.checked) false ⟨#[], #[.agg #[.slice none 0 0, .slice none 0 0, .slice none 0 0, .slice none 0 0, .int .i64 0, .int .i64 0, .int .i64 0, .int .i64 0, .bool false], .agg #[.int .i64 0, .slice none 0 0, .slice none 0 0]], []⟩ 8 (by kernel_rfl) (by kernel_rfl) (by kernel_rfl) (by kernel_rfl)) ?_
 intro W base args ds gs before hval hW _ _
 exact QO H enc W base args ds gs before hval hW
theorem wayChecks_holds : Rows.WayChecksSaid :=
 OpenClaim.holds_of_wide 5 Tryz.f5 rfl rfl rfl rfl rfl rfl rfl ⟨rfl, rfl, rfl, rfl, rfl⟩ rfl rfl rfl rfl rfl (by kernel_rfl) Tryz.func5 (by kernel_rfl)
  (of_decide_eq_true (by kernel_rfl)) (by unfold Func.isWrapper; first | (rw [if_pos (by decide +kernel)]; kernel_rfl) | (rw [if_neg (by decide +kernel)]; exact ⟨rfl, rfl⟩))
  (fun os started H enc _ => SL os started H enc)
#print axioms wayChecks_holds
end Go.Proofs.YtlmjaeojocjhkaaGreat
