/- WayLonger answers true for every input, and leaves its arguments as they were: the given statement WayLongerSaid. No condition. -/
import Derived.Test.YtlmjaeojocjhkaaGreatRows
import Derived.Test.YtlmjaeojocjhkaaGreatJ6
set_option linter.unusedVariables false
namespace Go.Proofs.YtlmjaeojocjhkaaGreat
open Go Go.E Go.ChangeShapes Go.WideShapes Go.ChangeAt Go.RowKit
theorem VN : ownKnob Tryz.prog.godebug = none := by kernel_rfl
theorem Qw : laidOutB Tryz.prog = true := by kernel_rfl
set_option maxRecDepth 100000 in
theorem QD (H : Type) (enc : TypeId × Value -> H) (W : World) (base : Nat) (args : Array Value) (ds gs : List (DataW H)) (before : List MemPlace)
  (hval : ∀ (j : Nat) t v, Tryz.f8.params[j]? = some t -> args[j]? = some v -> Value.okWide Tryz.prog W .any base t v)
  (hW : DataW.Whole enc Tryz.prog Tryz.f8.params.toList Rows.wayLongerSpec.vars false W args.toList ds gs before) :
  Calls Tryz.prog 8 args W fun e W' => ∃ v, e = .returned v /\ Rows.wayLongerSpec.post enc Tryz.prog Tryz.f8 false true false false W args v W' := by
 have hW1 := hW
 obtain ⟨p, q, hA0, hV, hpq, hfz, hnd⟩ := hW
 have hA : DataW.TrodAll enc Tryz.prog W 0 (fun _ => true) true [27, 31, 3, 3, 5] args.toList ds p := hA0
 rw [Tryz.params8] at hval
 obtain ⟨v0, vs0, d0, ds0, p0, q0, hv0, hd0, hp0, t0, r0⟩ := trodAll_cons hA
 obtain ⟨v1, vs1, d1, ds1, p1, q1, hv1, hd1, hp1, t1, r1⟩ := trodAll_cons r0
 obtain ⟨v2, vs2, d2, ds2, p2, q2, hv2, hd2, hp2, t2, r2⟩ := trodAll_cons r1
 obtain ⟨v3, vs3, d3, ds3, p3, q3, hv3, hd3, hp3, t3, r3⟩ := trodAll_cons r2
 obtain ⟨v4, vs4, d4, ds4, p4, q4, hv4, hd4, hp4, t4, r4⟩ := trodAll_cons r3
 obtain ⟨hv, hd, -⟩ := trodAll_nil r4
 obtain rfl : args = #[v0, v1, v2, v3, v4] := by
  apply Array.ext'
  simp only [hv0, hv1, hv2, hv3, hv4, hv]
 obtain rfl : ds = [d0, d1, d2, d3, d4] := by simp only [hd0, hd1, hd2, hd3, hd4, hd]
 have o0 := hval 0 27 v0 (by simp) (by simp)
 obtain ⟨c0, ht0, hr0⟩ := M6 (AD := AD) M4 AAk o0 t0
 obtain ⟨x0, rfl, k0⟩ := AB5 _ _ ht0
 have o1 := hval 1 31 v1 (by simp) (by simp)
 obtain ⟨c1, ht1, hr1⟩ := M6 (AD := AD) M4 AAl o1 t1
 obtain ⟨x1, rfl, k1⟩ := AB6 _ _ ht1
 have o2 := hval 2 3 v2 (by simp) (by simp)
 obtain ⟨c2, ht2, hr2⟩ := M6 (AD := AD) M4 Yq o2 t2
 obtain ⟨x2, rfl, k2⟩ := Eg _ _ ht2
 have o3 := hval 3 3 v3 (by simp) (by simp)
 obtain ⟨c3, ht3, hr3⟩ := M6 (AD := AD) M4 Yq o3 t3
 obtain ⟨x3, rfl, k3⟩ := Eg _ _ ht3
 have o4 := hval 4 5 v4 (by simp) (by simp)
 obtain ⟨c4, ht4, hr4⟩ := M6 (AD := AD) M4 ABa o4 t4
 obtain ⟨x4, rfl, k4⟩ := ACY _ _ ht4
 obtain ⟨rfl, -⟩ := trodVars_none hV
 have hf := Re x0 x1 x2 x3 x4 _ (Sc x0 x1 x2 x3 x4 k4)
 refine (hf.run (fun _ => False) W #[v0, v1, v2, v3, v4] (fun _ h => h.elim) rfl fun i v d hi hj => ?_).mono ?_
 .match i, hi, hj with
  | 0, hi, hj => cases hi; cases hj; exact hr0
  | 1, hi, hj => cases hi; cases hj; exact hr1
  | 2, hi, hj => cases hi; cases hj; exact hr2
  | 3, hi, hj => cases hi; cases hj; exact hr3
  | 4, hi, hj => cases hi; cases hj; exact hr4
  | i + 5, hi, _ => simp at hi
 rintro e W' ⟨v, r, rfl, hrel, rfl, hb⟩
 cases hrel
 exact ⟨_, rfl, YH Qw (by kernel_rfl) rfl (show Tryz.f8.resultTypes = #[4] from rfl) Tryz.underlying4 hW1 rfl rfl rfl hb⟩
set_option maxRecDepth 100000 in
theorem R6 (os : Os) (started : os.Started) (H : Type) (enc : TypeId × Value -> H) :
  ReturnsInHanded {} Tryz.checked os 8 .any (Rows.wayLongerSpec.pre6 enc Tryz.prog Tryz.f8 Rows.wayLongerRow.domain false) (Rows.wayLongerSpec.post enc Tryz.prog Tryz.f8 false true false false) := by
 refine returnsInHanded_of_change (C := Tryz.checked) VN started (by kernel_rfl) Tryz.func8
  (ChangeSpec.witness6 (enc := enc) (C := Tryz.checked) false ⟨#[], #[.agg #[.slice none 0 0, .slice none 0 0, .slice none 0 0, .slice none 0 0, .int .i64 0, .int .i64 0, .int .i64 0, .int .i64 0, .bool false], .agg #[.int .i64 0, .slice none 0 0, .slice none 0 0], .int .i64 0, .int .i64 0, .int .u8 0], []⟩ 8 (by kernel_rfl) (by kernel_rfl) (by kernel_rfl) (by kernel_rfl)) ?_
 intro W base args ds gs before hval hW _ _
 exact QD H enc W base args ds gs before hval hW
theorem wayLonger_holds : Rows.WayLongerSaid :=
 OpenClaim.holds_of_wide 8 Tryz.f8 rfl rfl rfl rfl rfl rfl rfl ⟨rfl, rfl, rfl, rfl, rfl⟩ rfl rfl rfl rfl rfl (by kernel_rfl) Tryz.func8 (by kernel_rfl)
  (of_decide_eq_true (by kernel_rfl)) (by unfold Func.isWrapper; first | (rw [if_pos (by decide +kernel)]; kernel_rfl) | (rw [if_neg (by decide +kernel)]; exact ⟨rfl, rfl⟩))
  (fun os started H enc _ => R6 os started H enc)
#print axioms wayLonger_holds
end Go.Proofs.YtlmjaeojocjhkaaGreat
