/- SideOwns answers true for every input, and leaves its arguments as they were: the given statement SideOwnsSaid. No condition. -/
import Derived.Test.YtoofmfiallkmbaaRows
import Derived.Test.YtoofmfiallkmbaaJ5
set_option linter.unusedVariables false
namespace Go.Proofs.Ytoofmfiallkmbaa
open Go Go.E Go.ChangeShapes Go.WideShapes Go.ChangeAt Go.RowKit

theorem ownSideOwns : ownKnob Try.prog.godebug = none := by kernel_rfl

theorem laidOutSideOwns : laidOutB Try.prog = true := by kernel_rfl

set_option maxRecDepth 100000 in
theorem contractSideOwns (H : Type) (enc : TypeId × Value → H) (W : World) (base : Nat) (args : Array Value) (ds gs : List (DataW H)) (before : List MemPlace)
    (hval : ∀ (j : Nat) t v, Try.f12.params[j]? = some t → args[j]? = some v → Value.okWide Try.prog W .any base t v)
    (hW : DataW.Whole enc Try.prog Try.f12.params.toList Rows.sideOwnsSpec.vars false W args.toList ds gs before) :
    Calls Try.prog 12 args W fun e W' => ∃ v, e = .returned v ∧ Rows.sideOwnsSpec.post enc Try.prog Try.f12 false true false false W args v W' := by
  have hW1 := hW
  obtain ⟨p, q, hA0, hV, hpq, hfz, hnd⟩ := hW
  have hA : DataW.TrodAll enc Try.prog W 0 (fun _ => true) true [36, 3] args.toList ds p := hA0
  rw [Try.params12] at hval
  obtain ⟨v0, vs0, d0, ds0, p0, q0, hv0, hd0, hp0, t0, r0⟩ := trodAll_cons hA
  obtain ⟨v1, vs1, d1, ds1, p1, q1, hv1, hd1, hp1, t1, r1⟩ := trodAll_cons r0
  obtain ⟨hv, hd, -⟩ := trodAll_nil r1
  obtain rfl : args = #[v0, v1] := by
    apply Array.ext'
    simp only [hv0, hv1, hv]
  obtain rfl : ds = [d0, d1] := by simp only [hd0, hd1, hd]
  have o0 := hval 0 36 v0 (by simp) (by simp)
  obtain ⟨c0, ht0, hr0⟩ := open_ty (env := env) tts_ok good_36 o0 t0
  obtain ⟨x0, rfl, k0⟩ := ty_36 _ _ ht0
  have o1 := hval 1 3 v1 (by simp) (by simp)
  obtain ⟨c1, ht1, hr1⟩ := open_ty (env := env) tts_ok good_3 o1 t1
  obtain ⟨x1, rfl, k1⟩ := ty_3 _ _ ht1
  obtain ⟨rfl, -⟩ := trodVars_none hV
  have hf := f_L8_SideOwns x0 x1 _ (SideOwns_true x0 x1)
  refine (hf.run (fun _ => False) W #[v0, v1] (fun _ h => h.elim) rfl fun i v d hi hj => ?_).mono ?_
  · match i, hi, hj with
    | 0, hi, hj => cases hi; cases hj; exact hr0
    | 1, hi, hj => cases hi; cases hj; exact hr1
    | i + 2, hi, _ => simp at hi
  · rintro e W' ⟨v, r, rfl, hrel, rfl, hb⟩
    cases hrel
    exact ⟨_, rfl, post_bool laidOutSideOwns (by kernel_rfl) rfl (show Try.f12.resultTypes = #[4] from rfl) Try.underlying4 hW1 rfl rfl rfl hb⟩

set_option maxRecDepth 100000 in
theorem liftedSideOwns (os : Os) (started : os.Started) (H : Type) (enc : TypeId × Value → H) :
    ReturnsInHanded {} Try.checked os 12 .any (Rows.sideOwnsSpec.pre6 enc Try.prog Try.f12 Rows.sideOwnsRow.domain false) (Rows.sideOwnsSpec.post enc Try.prog Try.f12 false true false false) := by
  refine returnsInHanded_of_change (C := Try.checked) ownSideOwns started (by kernel_rfl) Try.func12
    (ChangeSpec.witness6 (enc := enc) (C := Try.checked) false ⟨#[], #[.agg #[.int .i64 0, .int .i64 0, .int .i64 0, .slice none 0 0, .slice none 0 0, .slice none 0 0, .slice none 0 0, .slice none 0 0, .bool false], .int .i64 0], []⟩ 8 (by kernel_rfl) (by kernel_rfl) (by kernel_rfl) (by kernel_rfl)) ?_
  intro W base args ds gs before hval hW _ _
  exact contractSideOwns H enc W base args ds gs before hval hW

theorem sideOwns_holds : Rows.SideOwnsSaid :=
  OpenClaim.holds_of_wide 12 Try.f12 rfl rfl rfl rfl rfl rfl rfl ⟨rfl, rfl, rfl, rfl, rfl⟩ rfl rfl rfl rfl rfl (by kernel_rfl) Try.func12 (by kernel_rfl)
    (of_decide_eq_true (by kernel_rfl)) (by unfold Func.isWrapper; first | (rw [if_pos (by decide +kernel)]; kernel_rfl) | (rw [if_neg (by decide +kernel)]; exact ⟨rfl, rfl⟩))
    (fun os started H enc _ => liftedSideOwns os started H enc)

#print axioms sideOwns_holds
end Go.Proofs.Ytoofmfiallkmbaa
