/- RoadAlls answers true for every input, and leaves its arguments as they were: the given statement RoadAllsSaid. No condition. -/
import Derived.Test.YtdppdkjoaanpnaaGreatRows
import Derived.Test.YtdppdkjoaanpnaaGreatJ6
set_option linter.unusedVariables false
namespace Go.Proofs.YtdppdkjoaanpnaaGreat
open Go Go.E Go.ChangeShapes Go.WideShapes Go.ChangeAt Go.RowKit

theorem ownRoadAlls : ownKnob Tryz.prog.godebug = none := by kernel_rfl

theorem laidOutRoadAlls : laidOutB Tryz.prog = true := by kernel_rfl

set_option maxRecDepth 100000 in
theorem contractRoadAlls (H : Type) (enc : TypeId × Value → H) (W : World) (base : Nat) (args : Array Value) (ds gs : List (DataW H)) (before : List MemPlace)
    (hval : ∀ (j : Nat) t v, Tryz.f4.params[j]? = some t → args[j]? = some v → Value.okWide Tryz.prog W .any base t v)
    (hW : DataW.Whole enc Tryz.prog Tryz.f4.params.toList Rows.roadAllsSpec.vars false W args.toList ds gs before) :
    Calls Tryz.prog 4 args W fun e W' => ∃ v, e = .returned v ∧ Rows.roadAllsSpec.post enc Tryz.prog Tryz.f4 false true false false W args v W' := by
  have hW1 := hW
  obtain ⟨p, q, hA0, hV, hpq, hfz, hnd⟩ := hW
  have hA : DataW.TrodAll enc Tryz.prog W 0 (fun _ => true) true [27] args.toList ds p := hA0
  rw [Tryz.params4] at hval
  obtain ⟨v0, vs0, d0, ds0, p0, q0, hv0, hd0, hp0, t0, r0⟩ := trodAll_cons hA
  obtain ⟨hv, hd, -⟩ := trodAll_nil r0
  obtain rfl : args = #[v0] := by
    apply Array.ext'
    simp only [hv0, hv]
  obtain rfl : ds = [d0] := by simp only [hd0, hd]
  have o0 := hval 0 27 v0 (by simp) (by simp)
  obtain ⟨c0, ht0, hr0⟩ := open_ty (env := env) tts_ok good_27 o0 t0
  obtain ⟨x0, rfl, k0⟩ := ty_27 _ _ ht0
  obtain ⟨rfl, -⟩ := trodVars_none hV
  have hf := f_L7_RoadAlls x0 _ (RoadAlls_true x0)
  refine (hf.run (fun _ => False) W #[v0] (fun _ h => h.elim) rfl fun i v d hi hj => ?_).mono ?_
  · match i, hi, hj with
    | 0, hi, hj => cases hi; cases hj; exact hr0
    | i + 1, hi, _ => simp at hi
  · rintro e W' ⟨v, r, rfl, hrel, rfl, hb⟩
    cases hrel
    exact ⟨_, rfl, post_bool laidOutRoadAlls (by kernel_rfl) rfl (show Tryz.f4.resultTypes = #[4] from rfl) Tryz.underlying4 hW1 rfl rfl rfl hb⟩

set_option maxRecDepth 100000 in
theorem liftedRoadAlls (os : Os) (started : os.Started) (H : Type) (enc : TypeId × Value → H) :
    ReturnsInHanded {} Tryz.checked os 4 .any (Rows.roadAllsSpec.pre6 enc Tryz.prog Tryz.f4 Rows.roadAllsRow.domain false) (Rows.roadAllsSpec.post enc Tryz.prog Tryz.f4 false true false false) := by
  refine returnsInHanded_of_change (C := Tryz.checked) ownRoadAlls started (by kernel_rfl) Tryz.func4
    (ChangeSpec.witness6 (enc := enc) (C := Tryz.checked) false ⟨#[], #[.agg #[.slice none 0 0, .slice none 0 0, .slice none 0 0, .slice none 0 0, .int .i64 0, .int .i64 0, .int .i64 0, .int .i64 0, .bool false]], []⟩ 8 (by kernel_rfl) (by kernel_rfl) (by kernel_rfl) (by kernel_rfl)) ?_
  intro W base args ds gs before hval hW _ _
  exact contractRoadAlls H enc W base args ds gs before hval hW

theorem roadAlls_holds : Rows.RoadAllsSaid :=
  OpenClaim.holds_of_wide 4 Tryz.f4 rfl rfl rfl rfl rfl rfl rfl ⟨rfl, rfl, rfl, rfl, rfl⟩ rfl rfl rfl rfl rfl (by kernel_rfl) Tryz.func4 (by kernel_rfl)
    (of_decide_eq_true (by kernel_rfl)) (by unfold Func.isWrapper; first | (rw [if_pos (by decide +kernel)]; kernel_rfl) | (rw [if_neg (by decide +kernel)]; exact ⟨rfl, rfl⟩))
    (fun os started H enc _ => liftedRoadAlls os started H enc)

#print axioms roadAlls_holds
end Go.Proofs.YtdppdkjoaanpnaaGreat
