/- WayRest answers true for every input, and leaves its arguments as they were: the given statement WayRestSaid. No condition. -/
import Derived.Test.YtlmjaeojocjhkaaGreatRows
import Derived.Test.YtlmjaeojocjhkaaGreatJ6
set_option linter.unusedVariables false
namespace Go.Proofs.YtlmjaeojocjhkaaGreat
open Go Go.E Go.ChangeShapes Go.WideShapes Go.ChangeAt Go.RowKit
theorem Xr : ownKnob Tryz.prog.godebug = none := by kernel_rfl
theorem SW : laidOutB Tryz.prog = true := by kernel_rfl
set_option maxRecDepth 100000 in
theorem R0 (H : Type) (enc : TypeId × Value -> H) (W : World) (base : Nat) (args : Array Value) (ds gs : List (DataW H)) (before : List MemPlace)
  (hval : ∀ (j : Nat) t v, Tryz.f7.params[j]? = some t -> args[j]? = some v -> Value.okWide Tryz.prog W .any base t v)
  (hW : DataW.Whole enc Tryz.prog Tryz.f7.params.toList Rows.wayRestSpec.vars false W args.toList ds gs before) :
  Calls Tryz.prog 7 args W fun e W' => ∃ v, e = .returned v /\ Rows.wayRestSpec.post enc Tryz.prog Tryz.f7 false true false false W args v W' := by
 have hW1 := hW
 obtain ⟨p, q, hA0, hV, hpq, hfz, hnd⟩ := hW
 have hA : DataW.TrodAll enc Tryz.prog W 0 (fun _ => true) true [27, 31, 3, 3] args.toList ds p := hA0
 rw [Tryz.params7] at hval
 obtain ⟨v0, vs0, d0, ds0, p0, q0, hv0, hd0, hp0, t0, r0⟩ := trodAll_cons hA
 obtain ⟨v1, vs1, d1, ds1, p1, q1, hv1, hd1, hp1, t1, r1⟩ := trodAll_cons r0
 obtain ⟨v2, vs2, d2, ds2, p2, q2, hv2, hd2, hp2, t2, r2⟩ := trodAll_cons r1
 obtain ⟨v3, vs3, d3, ds3, p3, q3, hv3, hd3, hp3, t3, r3⟩ := trodAll_cons r2
 obtain ⟨hv, hd, -⟩ := trodAll_nil r3
 obtain rfl : args = #[v0, v1, v2, v3] := by
  apply Array.ext'
  simp only [hv0, hv1, hv2, hv3, hv]
 obtain rfl : ds = [d0, d1, d2, d3] := by simp only [hd0, hd1, hd2, hd3, hd]
 have o0 := hval 0 27 v0 (by simp) (by simp)
 obtain ⟨c0, ht0, hr0⟩ := Pz (AD := AD) PF AAh o0 t0
 obtain ⟨x0, rfl, k0⟩ := AB1 _ _ ht0
 have o1 := hval 1 31 v1 (by simp) (by simp)
 obtain ⟨c1, ht1, hr1⟩ := Pz (AD := AD) PF AAi o1 t1
 obtain ⟨x1, rfl, k1⟩ := AB2 _ _ ht1
 have o2 := hval 2 3 v2 (by simp) (by simp)
 obtain ⟨c2, ht2, hr2⟩ := Pz (AD := AD) PF Yt o2 t2
 obtain ⟨x2, rfl, k2⟩ := EX _ _ ht2
 have o3 := hval 3 3 v3 (by simp) (by simp)
 obtain ⟨c3, ht3, hr3⟩ := Pz (AD := AD) PF Yt o3 t3
 obtain ⟨x3, rfl, k3⟩ := EX _ _ ht3
 obtain ⟨rfl, -⟩ := trodVars_none hV
 have hf := TR x0 x1 x2 x3 _ (U0 x0 x1 x2 x3)
 refine (hf.run (fun _ => False) W #[v0, v1, v2, v3] (fun _ h => h.elim) rfl fun i v d hi hj => ?_).mono ?_
 .match i, hi, hj with
  | 0, hi, hj => cases hi; cases hj; exact hr0
  | 1, hi, hj => cases hi; cases hj; exact hr1
  | 2, hi, hj => cases hi; cases hj; exact hr2
  | 3, hi, hj => cases hi; cases hj; exact hr3
  | i + 4, hi, _ => simp at hi
 rintro e W' ⟨v, r, rfl, hrel, rfl, hb⟩
 cases hrel
 exact ⟨_, rfl, YI SW (by kernel_rfl) rfl (show Tryz.f7.resultTypes = #[4] from rfl) Tryz.underlying4 hW1 rfl rfl rfl hb⟩
set_option maxRecDepth 100000 in
theorem TY (os : Os) (started : os.Started) (H : Type) (enc : TypeId × Value -> H) :
  ReturnsInHanded {} Tryz.checked os 7 .any (Rows.wayRestSpec.pre6 enc Tryz.prog Tryz.f7 Rows.wayRestRow.domain false) (Rows.wayRestSpec.post enc Tryz.prog Tryz.f7 false true false false) := by
 refine returnsInHanded_of_change (C := Tryz.checked) Xr started (by kernel_rfl) Tryz.func7
  (ChangeSpec.witness6 (enc := enc) (C := Tryz.checked) false ⟨#[], #[.agg #[.slice none 0 0, .slice none 0 0, .slice none 0 0, .slice none 0 0, .int .i64 0, .int .i64 0, .int .i64 0, .int .i64 0, .bool false], .agg #[.int .i64 0, .slice none 0 0, .slice none 0 0], .int .i64 0, .int .i64 0], []⟩ 8 (by kernel_rfl) (by kernel_rfl) (by kernel_rfl) (by kernel_rfl)) ?_
 intro W base args ds gs before hval hW _ _
 exact R0 H enc W base args ds gs before hval hW
theorem wayRest_holds : Rows.WayRestSaid :=
 OpenClaim.holds_of_wide 7 Tryz.f7 rfl rfl rfl rfl rfl rfl rfl ⟨rfl, rfl, rfl, rfl, rfl⟩ rfl rfl rfl rfl rfl (by kernel_rfl) Tryz.func7 (by kernel_rfl)
  (of_decide_eq_true (by kernel_rfl)) (by unfold Func.isWrapper; first | (rw [if_pos (by decide +kernel)]; kernel_rfl) | (rw [if_neg (by decide +kernel)]; exact ⟨rfl, rfl⟩))
  (fun os started H enc _ => TY os started H enc)
#print axioms wayRest_holds
end Go.Proofs.YtlmjaeojocjhkaaGreat
