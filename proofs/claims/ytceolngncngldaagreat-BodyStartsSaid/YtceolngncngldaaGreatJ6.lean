/- Plain Lean: BodyTurns answers true, for every argument. No condition. -/
import Derived.Test.YtceolngncngldaaGreatJ5
set_option linter.unusedVariables false
set_option linter.unusedSimpArgs false
namespace Go.E
open Go

/-- A body in one Track that the document takes lies whole in it. -/
theorem one_fit {p : Plan} {len : Int} {b : Body} {h : Port} (hb : BodyOK p len b) (m2 : b.mode = 2) (ht : b.trail = [h]) (o : b.over = 0) (k1 : kindP p h.elem = 1) : len + b.left ≤ lengthP p h.elem := by
  obtain ⟨-, h2⟩ := hb.lies (.inl m2) h (by rw [ht]; rfl)
  rw [ht, o] at h2
  simp [sumL] at h2
  omega

theorem Turn_eq {p : Plan} {n : Net} (hn : NetOf p n) (hv : Valid p) {len : Int} {b : Body} (hb : BodyOK p len b) :
    (g_body_Turn n len b = some (⟨0, [], 0, 0, 0⟩, false) ∧ g_R24_Turn p len b = some (⟨0, [], 0, 0, 0⟩, false)) ∨
    ∃ h, b.trail = [h] ∧ b.mode = 2 ∧ b.over = 0 ∧ b.v = 0 ∧ kindP p h.elem = 1 ∧ hasP p h = true ∧ 0 ≤ b.left ∧ len + b.left ≤ lengthP p h.elem ∧ 0 ≤ readsP p ⟨h.elem, 1 - h.fin⟩ ∧
      g_body_Turn n len b = some (⟨2, [⟨h.elem, 1 - h.fin⟩], lengthP p h.elem - b.left - len, 0, 0⟩, true) ∧ g_R24_Turn p len b = some (⟨2, [⟨h.elem, 1 - h.fin⟩], lengthP p h.elem - b.left - len, 0, 0⟩, true) := by
  have hsig := hv.few.signals
  obtain ⟨r, w1, w2, w3⟩ := Whole_eq hn b
  unfold g_body_Turn g_R24_Turn
  simp only [w1, w2, Option.bind_some]
  cases hr : r.2 with
  | false => exact .inl ⟨rfl, rfl⟩
  | true =>
    obtain ⟨h, ht, m2, o, k1, re⟩ := w3 hr
    have i0 : idx b.trail 0 = some h := by rw [ht]; rfl
    simp only [Bool.not_true, cond_false, Option.bind_some]
    by_cases hv0 : b.v = 0
    · have hvb : (b.v != 0) = false := by simp [hv0]
      have hh : hasP p h = true := ((hb.heads (.inl m2)).port 0 h (by rw [ht]; rfl)).1
      obtain ⟨f1, f2, f3⟩ := hasP_fin hh
      have e1 : wi64 (1 - h.fin) = 1 - h.fin := by rw [wi64_id] <;> omega
      simp only [hvb, cond_false, i0, Option.bind_some, re, e1, net_Reads hn, g_R6_Reads_eq p (show p.signals.length < 1000000 by omega), net_Length hn, g_R6_Length_eq]
      by_cases hr0 : readsP p ⟨h.elem, 1 - h.fin⟩ < 0
      · exact .inl ⟨by simp [hr0], by simp [hr0]⟩
      · have hfit := one_fit hb m2 ht o k1
        obtain ⟨l1, l2, -⟩ := lengthP_le hv.args h.elem
        have hl := hb.left; have hlen := hb.len
        have e2 : wi64 (lengthP p h.elem - b.left) = lengthP p h.elem - b.left := by rw [wi64_id] <;> omega
        have e3 : wi64 (lengthP p h.elem - b.left - len) = lengthP p h.elem - b.left - len := by rw [wi64_id] <;> omega
        refine .inr ⟨h, ht, m2, o, hv0, k1, hh, hl.1, hfit, by omega, ?_, ?_⟩
        · simp only [hr0, decide_false, cond_false, e2, e3]
        · simp only [hr0, decide_false, cond_false, e2, e3]
    · have hvb : (b.v != 0) = true := bne_iff_ne.2 hv0
      exact .inl ⟨by simp only [hvb, Bool.not_true, cond_false, Option.bind_some, cond_true], by simp only [hvb, Bool.not_true, cond_false, Option.bind_some, cond_true]⟩

theorem BodyTurns_true (p : Plan) (len : Int) (b : Body) : g_L23_BodyTurns p len b = some true := by
  unfold g_L23_BodyTurns
  simp only [known23, Option.bind_some, Bool.not_true, cond_false]
  by_cases a2 : (5000 : Int) < (b.trail.length : Int)
  · simp only [a2, decide_true, cond_true, Option.bind_some]
  obtain ⟨f, hf, hfine⟩ := fine_total p
  simp only [a2, decide_false, cond_false, hf, Option.bind_some]
  cases f with
  | false => rfl
  | true =>
    have hv := hfine rfl
    obtain ⟨r, hr, hr'⟩ := MayBody_total p hv len b (by omega)
    simp only [Bool.not_true, cond_false, hr, Option.bind_some]
    cases r with
    | false => rfl
    | true =>
      have hb := hr' rfl
      have hlen := hb.len
      have hsig := hv.few.signals
      obtain ⟨n, h1, hno⟩ := case_total p [] len b (by simp) (by omega) hf hr
      simp only [Bool.not_true, cond_false, h1, Option.bind_some, optM]
      rcases Turn_eq hno hv hb with ⟨t1, t2⟩ | ⟨h, ht, m2, o, v0, k1, hh, l0, fit, r0, t1, t2⟩
      · simp only [t1, t2, Option.bind_some, SameBody_refl (⟨0, [], 0, 0, 0⟩ : Body) (by simp), Bool.not_true, cond_false, beq_self_eq_true, Bool.not_false, cond_true]
      · obtain ⟨f1, f2, f3⟩ := hasP_fin hh
        rw [k1] at f3
        simp only [endsF, if_true] at f3
        have hc : hasP p ⟨h.elem, 1 - h.fin⟩ = true := by
          simp only [hasP, k1, endsF, if_true]
          simp; omega
        have hmay : g_body_May n len ⟨2, [⟨h.elem, 1 - h.fin⟩], lengthP p h.elem - b.left - len, 0, 0⟩ = some true :=
          May_one hno hv (by omega) hc (by simp only [k1]; decide) (by omega) (by omega) (by simp only; omega)
        have i0 : idx b.trail 0 = some h := by rw [ht]; rfl
        have back : (⟨h.elem, 1 - (1 - h.fin)⟩ : Port) = h := by
          cases h; simp only [Port.mk.injEq, true_and]; omega
        have hw : g_body_Whole n ⟨2, [⟨h.elem, 1 - h.fin⟩], lengthP p h.elem - b.left - len, 0, 0⟩ = some (h.elem, true) := by
          have j0 : idx [(⟨h.elem, 1 - h.fin⟩ : Port)] 0 = some ⟨h.elem, 1 - h.fin⟩ := rfl
          unfold g_body_Whole
          simp [j0, net_Kind hno, k1]
        obtain ⟨l1, l2, -⟩ := lengthP_le hv.args h.elem
        have hturn : g_body_Turn n len ⟨2, [⟨h.elem, 1 - h.fin⟩], lengthP p h.elem - b.left - len, 0, 0⟩ = some (if readsP p h < 0 then (⟨0, [], 0, 0, 0⟩, false) else (⟨2, [h], b.left, 0, 0⟩, true)) := by
          have j0 : idx [(⟨h.elem, 1 - h.fin⟩ : Port)] 0 = some ⟨h.elem, 1 - h.fin⟩ := rfl
          have e1 : wi64 (1 - (1 - h.fin)) = 1 - (1 - h.fin) := by rw [wi64_id] <;> omega
          have e2 : wi64 (lengthP p h.elem - (lengthP p h.elem - b.left - len)) = b.left + len := by rw [wi64_id] <;> omega
          have e3 : wi64 (b.left + len - len) = b.left := by rw [wi64_id] <;> omega
          unfold g_body_Turn
          simp only [hw, Option.bind_some, Bool.not_true, cond_false, bne_self_eq_false, j0, e1, net_Reads hno, back, net_Length hno, e2, e3]
          by_cases c : readsP p h < 0
          · simp only [c, decide_true, cond_true, if_true]
          · simp only [c, decide_false, cond_false, if_false]
        simp only [t1, t2, Option.bind_some, SameBody_refl (⟨2, [⟨h.elem, 1 - h.fin⟩], lengthP p h.elem - b.left - len, 0, 0⟩ : Body) (by simp), Bool.not_true, cond_false, beq_self_eq_true, hturn, hmay, cond_true, i0, g_R6_Reads_eq p (show p.signals.length < 1000000 by omega)]
        by_cases c : readsP p h < 0
        · simp [c]
        · have hbb : (⟨2, [h], b.left, 0, 0⟩ : Body) = b := by cases b; simp only at ht m2 o v0; subst ht m2 o v0; rfl
          simp only [if_neg c, Bool.not_true, cond_false, hbb, SameBody_refl b (by omega), Option.bind_some, cond_true]
          simp; omega

end Go.E
