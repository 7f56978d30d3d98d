/- Plain Lean: BodyRuns and BodyFar answer true, for every argument. No condition. -/
import Derived.Test.YtceolngncngldaaGreatJ5
set_option linter.unusedVariables false
set_option linter.unusedSimpArgs false
namespace Go.E
open Go

/-! ### a run -/
def runF (p : Plan) (pos : List Int) : Nat → Port → List Port
  | 0, _ => []
  | k + 1, h => match nextP p h with
    | none => []
    | some y => if kindP p y.elem = 4 then [] else match goP p pos y with
      | none => []
      | some o => ⟨y.elem, o⟩ :: runF p pos k ⟨y.elem, o⟩

theorem run_len (p : Plan) (pos : List Int) : ∀ k h, (runF p pos k h).length ≤ k
  | 0, _ => by simp [runF]
  | k + 1, h => by
    unfold runF
    cases nextP p h with
    | none => simp
    | some y =>
      simp only
      split
      · simp
      · cases goP p pos y with
        | none => simp
        | some o => simp only [List.length_cons]; have := run_len p pos k ⟨y.elem, o⟩; omega

theorem walk_lies_eq (pos : List Int) (e : Int) : g_walk_lies pos e = some ((idx pos e).getD 0) := by
  unfold g_walk_lies
  by_cases h1 : e < 0
  · simp [h1, idx_none (.inl h1)]
  · by_cases h2 : (pos.length : Int) ≤ e
    · simp [h1, h2, idx_none (.inr h2)]
    · obtain ⟨a, ha⟩ := idx_of (l := pos) (n := e) (by omega) (by omega)
      simp [h1, h2, ha]

section
variable {p : Plan} {n : Net}

theorem run_loop (hn : NetOf p n) (pos : List Int) : ∀ (k : Nat) (h : Port) (out : List Port), out.length + k = 100 →
    ∃ r, loopR (g_walk_Run_l1 n pos 100) (h.elem, h.fin, out) = some (out ++ runF p pos k h, r) := by
  have hc : (if (if (1000 : Int) < 100 then (1000 : Int) else 100) > 0 then (if (1000 : Int) < 100 then (1000 : Int) else 100) else 0) = 100 := by decide
  have step : ∀ h : Port, g_walk_Step n pos (⟨h.elem, h.fin⟩ : Port) = (match nextP p h with
      | none => some (⟨0, 0⟩, 3)
      | some y => if kindP p y.elem = 4 then some (⟨0, 0⟩, 2) else match goP p pos y with
        | none => some (⟨0, 0⟩, 4)
        | some o => some (⟨y.elem, o⟩, 0)) := by
    intro h
    unfold g_walk_Step
    simp only [net_Next hn, Option.bind_some]
    cases nextP p h with
    | none => rfl
    | some y =>
      simp only [Option.isSome_some, Option.getD_some, Bool.not_true, cond_false, net_Kind hn, Option.bind_some, cbeq]
      split
      · rfl
      · simp only [walk_lies_eq, Option.bind_some, net_Through hn]
        have hg : throughP p y.elem y.fin ((idx pos y.elem).getD 0) = goP p pos y := rfl
        rw [hg]
        cases goP p pos y with
        | none => rfl
        | some o => rfl
  intro k
  induction k with
  | zero =>
    intro h out hl
    have e5 : ((out.length : Int) == 100) = true := by rw [beq_iff_eq]; omega
    have key : ∃ r, g_walk_Run_l1 n pos 100 (h.elem, h.fin, out) = some (.inr (out, r)) := by
      simp only [g_walk_Run_l1, step, hc, e5]
      cases nextP p h with
      | none => exact ⟨3, rfl⟩
      | some y =>
        simp only
        split
        · exact ⟨2, rfl⟩
        · cases goP p pos y with
          | none => exact ⟨4, rfl⟩
          | some o => exact ⟨5, rfl⟩
    obtain ⟨r, hr⟩ := key
    exact ⟨r, by rw [loopR_inr hr]; simp [runF]⟩
  | succ k ih =>
    intro h out hl
    have e5 : ((out.length : Int) == 100) = false := by rw [beq_eq_false_iff_ne]; omega
    have hs : g_walk_Run_l1 n pos 100 (h.elem, h.fin, out) = (g_walk_Step n pos (⟨h.elem, h.fin⟩ : Port)).bind fun y54 => bif (y54.2 != 0) then some (.inr (out, y54.2)) else (appI out [y54.1]).bind fun y70 => some (.inl (y54.1.elem, y54.1.fin, y70)) := by
      simp only [g_walk_Run_l1, hc, e5, cond_false]
    rw [step] at hs
    unfold runF
    cases hnx : nextP p h with
    | none =>
      rw [hnx] at hs
      exact ⟨3, by rw [loopR_inr hs]; simp⟩
    | some y =>
      rw [hnx] at hs
      simp only at hs ⊢
      by_cases hk : kindP p y.elem = 4
      · simp only [if_pos hk] at hs ⊢
        exact ⟨2, by rw [loopR_inr hs]; simp⟩
      · simp only [if_neg hk] at hs ⊢
        cases hgo : goP p pos y with
        | none =>
          rw [hgo] at hs
          exact ⟨4, by rw [loopR_inr hs]; simp⟩
        | some o =>
          rw [hgo] at hs
          simp only [Option.bind_some, appI_ok (show out.length + [(⟨y.elem, o⟩ : Port)].length ≤ 4294967296 by simp; omega)] at hs
          obtain ⟨r, hr⟩ := ih ⟨y.elem, o⟩ (out ++ [⟨y.elem, o⟩]) (by simp; omega)
          refine ⟨r, ?_⟩
          rw [loopR_inl hs, hr]
          simp

theorem Run_eq (hn : NetOf p n) (pos : List Int) (h : Port) : ∃ r, g_walk_Run n pos h 100 = some (runF p pos 100 h, r) := by
  obtain ⟨r, hr⟩ := run_loop hn pos 100 h [] rfl
  exact ⟨r, by unfold g_walk_Run; rw [hr]; simp⟩

end

/-- What a way adds begins a run. -/
theorem way_run (p : Plan) (pos : List Int) (ov : Int) : ∀ (k K : Nat) (m left : Int) (tr : List Port) (h : Port), tr.getLast? = some h → k ≤ K →
    ∃ a rest, (wayF p pos ov k m left tr).2.2.2 = tr ++ a ∧ runF p pos K h = a ++ rest
  | 0, K, m, left, tr, h, _, _ => ⟨[], _, by simp [wayF], rfl⟩
  | k + 1, 0, _, _, _, _, _, hK => by omega
  | k + 1, K + 1, m, left, tr, h, hl, hK => by
    simp only [wayF, hl, runF]
    split
    · exact ⟨[], _, by simp, rfl⟩
    · cases nextP p h with
      | none => exact ⟨[], _, by simp, rfl⟩
      | some y =>
        simp only
        split
        · exact ⟨[], _, by simp, rfl⟩
        · cases goP p pos y with
          | none => exact ⟨[], _, by simp, rfl⟩
          | some o =>
            obtain ⟨a, rest, h1, h2⟩ := way_run p pos ov k K (m - left) (lengthP p y.elem) (tr ++ [⟨y.elem, o⟩]) ⟨y.elem, o⟩ (by simp) (by omega)
            exact ⟨⟨y.elem, o⟩ :: a, rest, by simp only [h1]; simp, by simp only [h2]; rfl⟩

theorem SamePorts_any (a b : List Port) (h : a.length = b.length) (hl : a.length < 1000000) : ∃ r, g_R6_SamePorts a b = some r := by
  unfold g_R6_SamePorts
  simp only [h, bne_self_eq_false, cond_false]
  obtain ⟨r, hr, -⟩ := loop_ix (l := a) (step := g_R6_SamePorts_l1 a b) (Post := fun _ => True) (fun _ _ => True) (fun _ => ⟨true, by simp only [g_R6_SamePorts_l1, dge, cond_false], trivial⟩)
    (fun i x hx _ => by
      have hi := ilt hx
      have hb : b[i]? = some (b[i]'(by omega)) := List.getElem?_eq_getElem _
      by_cases e : x = b[i]'(by omega)
      · exact .inr ⟨by simp only [g_R6_SamePorts_l1, dlt hx, cond_true, idx_nat, hx, hb, Option.bind_some, ← e, beq_self_eq_true, Bool.not_true, cond_false, wi64_succ (show i < 1000000000 by omega)], trivial⟩
      · have eb : (x == b[i]'(by omega)) = false := beq_eq_false_iff_ne.2 e
        exact .inl ⟨false, by simp only [g_R6_SamePorts_l1, dlt hx, cond_true, idx_nat, hx, hb, Option.bind_some, eb, Bool.not_false], trivial⟩)
  exact ⟨r, hr⟩

theorem slO_at {l : List Port} {i j : Nat} (h : i + j ≤ l.length) (h0 : l ≠ []) : slO l (i : Int) ((i + j : Nat) : Int) = some ((l.drop i).take j) := by
  cases l with
  | nil => exact absurd rfl h0
  | cons x r =>
    show slI (x :: r) _ _ = _
    unfold slI
    rw [if_pos ⟨by omega, by omega, by omega⟩]
    simp only [Int.toNat_natCast, List.drop_take, Nat.add_sub_cancel_left]

theorem BodyRuns_true (p : Plan) (pos : List Int) (len : Int) (b : Body) (v : Int) (hv8 : (Lit.int .u8 v).wf = true) : g_L23_BodyRuns p pos len b v = some true := by
  have hx : 0 ≤ v ∧ v ≤ 255 := by simpa [Lit.wf, IntKind.min, IntKind.max, IntKind.signed, IntKind.bits] using hv8
  have e1 : wi64 v = v := by rw [wi64_id] <;> omega
  unfold g_L23_BodyRuns
  simp only [known23, Option.bind_some, Bool.not_true, cond_false, e1]
  by_cases m2 : b.mode = 2
  case neg =>
    have : (b.mode != 2) = true := by simp [m2]
    simp only [this, cond_true, Option.bind_some]
  have mb : (b.mode != 2) = false := by simp [m2]
  simp only [mb, cond_false]
  by_cases a1 : (100 : Int) < (pos.length : Int)
  · simp only [a1, decide_true, cond_true, Option.bind_some]
  by_cases a2 : (5000 : Int) < (b.trail.length : Int)
  · simp only [a1, a2, decide_true, decide_false, cond_false, cond_true, Option.bind_some]
  obtain ⟨f, hf, hfine⟩ := fine_total p
  simp only [a1, a2, decide_false, cond_false, hf, Option.bind_some]
  cases f with
  | false => rfl
  | true =>
    have hv := hfine rfl
    obtain ⟨r, hr, hr'⟩ := MayBody_total p hv len b (by omega)
    simp only [Bool.not_true, cond_false, hr, Option.bind_some]
    cases r with
    | false => rfl
    | true =>
      have hb := hr' rfl
      have hlen := hb.len
      have hl : b.trail.length ≤ 5000 := by omega
      obtain ⟨n, h1, hno⟩ := case_total p pos len b (by omega) hl hf hr
      have hh := hb.heads (.inl m2)
      have hne := hh.ne
      have hV := heldF_le (x := v) (lo := 0) (hi := 60) (by omega)
      obtain ⟨vv, hm, -⟩ := Move_run hno hv pos len m2 hb.over hb.left hne (by omega) (v := heldF v 0 60) hV
      rw [← Move_held] at hm
      obtain ⟨h, hi, hi'⟩ := last_idx hne (by omega)
      have hlast : b.trail.getLast? = some h := by rw [List.getLast?_eq_getElem?]; exact hi'
      obtain ⟨rr, hrun⟩ := Run_eq hno pos h
      obtain ⟨a, rest, w1, w2⟩ := way_run p pos b.over 70 100 (heldF v 0 60) b.left b.trail h hlast (by omega)
      have hrl := run_len p pos 100 h
      simp only [Bool.not_true, cond_false, h1, Option.bind_some, optM, hm, cbeq]
      generalize hw : wayF p pos b.over 70 (heldF v 0 60) b.left b.trail = e at *
      by_cases hq : len ≤ e.2.2.1
      · simp only [finF, if_pos hq]; simp
      · by_cases h3 : e.1 = 3
        · exfalso
          have := (way_ok hv pos b.over 70 (heldF v 0 60) b.left b.trail hV.1 hb.left).mode
          rw [hw] at this
          omega
        · obtain ⟨pre, t1, t2⟩ := trim_suffix p len (e.2.2.1 - e.2.1) e.2.2.2
          simp only [finF, if_neg hq, if_neg h3, hi, Option.bind_some, hrun, appI_ok (show ([] : List Port).length + b.trail.length ≤ 4294967296 by simp; omega), List.nil_append, appI_ok (show b.trail.length + (runF p pos 100 h).length ≤ 4294967296 by omega)]
          have hL : b.trail ++ runF p pos 100 h = pre ++ (trimF p len (e.2.2.1 - e.2.1) e.2.2.2 ++ rest) := by rw [w2, ← List.append_assoc, ← w1, ← List.append_assoc, ← t1]
          have htne := t2 (by rw [w1]; intro hc; simp at hc; rw [hc.1] at hne; simp at hne)
          rw [hL]
          generalize trimF p len (e.2.2.1 - e.2.1) e.2.2.2 = t at *
          have hsum := congrArg List.length hL
          simp only [List.length_append] at hsum
          generalize hc : (⟨e.1, t, e.2.1, e.2.2.1, vv⟩ : Body) = c
          have hct : c.trail = t := by rw [← hc]
          obtain ⟨ans, h5, rfl⟩ := loop_up (step := g_L23_BodyRuns_l1 c (pre ++ (t ++ rest))) (Post := fun x => x = true) (s := (0 : Int)) (fun k s => s = (k : Int) ∧ k ≤ pre.length) pre.length (by
            rintro k s ⟨rfl, hk⟩
            have ei : wi64 ((k : Int) + (t.length : Int)) = ((k + t.length : Nat) : Int) := by rw [wi64_id] <;> omega
            have d : decide (((k + t.length : Nat) : Int) ≤ ((pre ++ (t ++ rest)).length : Int)) = true := by simp only [List.length_append, decide_eq_true_eq]; omega
            have hsl := slO_at (l := pre ++ (t ++ rest)) (i := k) (j := t.length) (by simp only [List.length_append]; omega) (by simp [htne])
            obtain ⟨r, hr⟩ := SamePorts_any (((pre ++ (t ++ rest)).drop k).take t.length) t (by simp; omega) (by simp; omega)
            have hs : g_L23_BodyRuns_l1 c (pre ++ (t ++ rest)) (k : Int) = bif r then some (.inr true) else some (.inl (wi64 ((k : Int) + 1))) := by
              simp only [g_L23_BodyRuns_l1, hct, ei, d, cond_true, hsl, Option.bind_some, hr]
            cases r with
            | true => exact .inl ⟨true, hs, rfl⟩
            | false =>
              right
              rw [wi64_succ (by omega)] at hs
              refine ⟨?_, _, hs, rfl, ?_⟩
              all_goals
                by_cases hkk : k = pre.length
                · exfalso
                  subst hkk
                  have : ((pre ++ (t ++ rest)).drop pre.length).take t.length = t := by simp
                  rw [this, SamePorts_refl t (by omega)] at hr
                  cases hr
                · omega) ⟨rfl, by omega⟩
          exact h5

/-! ### how far -/
theorem sumL_nonneg {p : Plan} (hv : Valid p) : ∀ l : List Port, 0 ≤ sumL p l
  | [] => by simp [sumL]
  | x :: l => by
    have := sumL_nonneg hv l
    obtain ⟨l1, -, -⟩ := lengthP_le hv.args x.elem
    simp only [sumL]; omega

/-- What a way has run. -/
def Far (p : Plan) (ov left m vv : Int) (tr : List Port) (e : Int × Int × Int × List Port) : Prop :=
  (vv = 0 ∧ e.2.1 = 0) ∨ ov < e.2.2.1 ∨ ∃ a, e.2.2.2 = tr ++ a ∧ left - e.2.1 + sumL p a = m ∧ ∀ j, j < a.length → left + sumL p (a.take j) < m

theorem way_far {p : Plan} {n : Net} (hn : NetOf p n) (hv : Valid p) (pos : List Int) (b : Body) (v : Int) (hb : 0 ≤ b.over ∧ b.over ≤ 4000) : ∀ (k : Nat) (m left : Int) (tr : List Port), 0 ≤ m ∧ m ≤ 60 → 0 ≤ left ∧ left ≤ 4000 → 1 ≤ tr.length → tr.length + k ≤ 5300 → restM m left ≤ k →
    ∃ vv, Far p b.over left m vv tr (wayF p pos b.over k m left tr) ∧ ((0 ≤ vv ∧ vv ≤ 60) ∧ ((wayF p pos b.over k m left tr).1 = 4 → vv = 0)) ∧ loopR (g_body_Move_l1 n pos b v) (m, 2, left, tr) = some ((wayF p pos b.over k m left tr).1, (wayF p pos b.over k m left tr).2.1, (wayF p pos b.over k m left tr).2.2.1, vv, (wayF p pos b.over k m left tr).2.2.2)
  | 0, m, left, tr, hm, hl, h1, h2, hr => by
    unfold restM at hr
    have hm0 : m = 0 := by split at hr <;> omega
    refine ⟨heldF v 0 60, .inr (.inr ⟨[], by simp [wayF], by simp [wayF, sumL]; omega, by simp⟩), ⟨heldF_le (by omega), fun h => by simp [wayF] at h⟩, loopR_inr ?_⟩
    simp only [g_body_Move_l1, hm0, show decide ((0 : Int) < 0) = false by decide, cond_false, hold60, wayF]
  | k + 1, m, left, tr, hm, hl, h1, h2, hr => by
    by_cases hm0 : 0 < m
    · have hd : decide (0 < m) = true := by simpa using hm0
      have hst := step_held hm0 hl.1
      by_cases hml : m ≤ left
      · refine ⟨heldF v 0 60, .inr (.inr ⟨[], by simp [wayF, hml], by simp only [wayF, if_pos hml, sumL]; omega, by simp⟩), ⟨heldF_le (by omega), fun h => by simp [wayF, hml] at h⟩, loopR_inr ?_⟩
        have e1 : wi64 (left - m) = left - m := by rw [wi64_id] <;> omega
        have e2 : (wi64 (m - m) == 0) = true := by rw [show m - m = 0 by omega]; rfl
        simp only [g_body_Move_l1, hd, cond_true, hst, hold60, if_pos hml, e2, e1, wayF]
        rw [if_neg (by omega)]
      · have e1 : wi64 (left - left) = 0 := by rw [show left - left = 0 by omega]; rfl
        have e2 : wi64 (m - left) = m - left := by rw [wi64_id] <;> omega
        have e3 : (wi64 (m - left) == 0) = false := by rw [e2, beq_eq_false_iff_ne]; omega
        obtain ⟨h, hx, hx'⟩ := last_idx (l := tr) h1 (by omega)
        have hlast : tr.getLast? = some h := by rw [List.getLast?_eq_getElem?]; exact hx'
        have hneg : ¬ (0 : Int) > 0 := by omega
        simp only [wayF, if_neg hml, hlast]
        cases hnx : nextP p h with
        | none =>
          refine ⟨0, .inl ⟨rfl, rfl⟩, ⟨by omega, fun _ => rfl⟩, loopR_inr ?_⟩
          simp only [g_body_Move_l1, hd, cond_true, hst, if_neg hml, e1, e3, cond_false, hx, Option.bind_some, net_Next hn, hnx, Option.isSome_none, Bool.not_false, hneg, if_false]
        | some y =>
          by_cases hk : kindP p y.elem = 4
          · refine ⟨heldF v 0 60, .inr (.inl (by simp only [if_pos hk]; omega)), ⟨heldF_le (by omega), fun h => by simp [hk] at h⟩, loopR_inr ?_⟩
            have e4 : wi64 (b.over + (m - left)) = b.over + (m - left) := by rw [wi64_id] <;> omega
            have e5 : (m - left == 0) = false := by rw [beq_eq_false_iff_ne]; omega
            simp only [g_body_Move_l1, hd, cond_true, hst, hold60, if_neg hml, e1, e3, cond_false, hx, Option.bind_some, net_Next hn, hnx, Option.isSome_some, Option.getD_some, Bool.not_true, net_Kind hn, hk, beq_self_eq_true, e2, e4, e5, cond_true, hneg, if_false, if_true]
          · simp only [if_neg hk]
            have hg : throughP p y.elem y.fin ((idx pos y.elem).getD 0) = goP p pos y := rfl
            have hkb : (kindP p y.elem == 4) = false := beq_eq_false_iff_ne.2 hk
            cases hgo : goP p pos y with
            | none =>
              refine ⟨0, .inl ⟨rfl, rfl⟩, ⟨by omega, fun _ => rfl⟩, loopR_inr ?_⟩
              simp only [g_body_Move_l1, hd, cond_true, hst, if_neg hml, e1, e3, cond_false, hx, Option.bind_some, net_Next hn, hnx, Option.isSome_some, Option.getD_some, Bool.not_true, net_Kind hn, hkb, prog_pos (hv.join.next hnx), net_Through hn, hg, hgo, Option.isSome_none, Bool.not_false, beq_self_eq_true, hneg, if_false]
            | some o =>
              obtain ⟨g1, g2⟩ := next_len hv hnx hk
              have hr' : restM (m - left) (lengthP p y.elem) ≤ (k : Int) := by
                unfold restM at hr ⊢
                rw [if_neg (by omega)]
                split at hr <;> omega
              obtain ⟨vv, far, hq, hvv⟩ := way_far hn hv pos b v hb k (m - left) (lengthP p y.elem) (tr ++ [⟨y.elem, o⟩]) (by omega) (by omega) (by simp) (by simp; omega) hr'
              refine ⟨vv, ?_, hq, ?_⟩
              · rcases far with f | f | ⟨a, f1, f2, f3⟩
                · exact .inl f
                · exact .inr (.inl f)
                · refine .inr (.inr ⟨⟨y.elem, o⟩ :: a, by simp only [f1]; simp, by simp only [sumL]; omega, fun j hj => ?_⟩)
                  cases j with
                  | zero => simp only [List.take_zero, sumL]; omega
                  | succ j => have := f3 j (by simpa using hj); simp only [List.take_succ_cons, sumL]; omega
              rw [loopR_inl (s' := (m - left, 2, lengthP p y.elem, tr ++ [⟨y.elem, o⟩])) (by
                simp only [g_body_Move_l1, hd, cond_true, hst, if_neg hml, e1, e2, cond_false, hx, Option.bind_some, net_Next hn, hnx, Option.isSome_some, Option.getD_some, Bool.not_true, net_Kind hn, hkb, prog_pos (hv.join.next hnx), net_Through hn, hg, hgo, show (m - left == 0) = false by rw [beq_eq_false_iff_ne]; omega]
                rw [appI_ok (by simp; omega)]
                simp only [Option.bind_some, net_Length hn])]
              exact hvv
    · have hm0' : m = 0 := by omega
      refine ⟨heldF v 0 60, .inr (.inr ⟨[], by simp [wayF, hm0', hl.1], by simp [wayF, hm0', hl.1, sumL], by simp⟩), ⟨heldF_le (by omega), fun h => by simp [wayF, hm0', hl.1] at h⟩, loopR_inr ?_⟩
      simp only [g_body_Move_l1, hm0', show decide ((0 : Int) < 0) = false by decide, cond_false, hold60, wayF, hl.1, if_true]
      simp

theorem Move_far {p : Plan} {n : Net} (hn : NetOf p n) (hv : Valid p) (pos : List Int) (len : Int) {b : Body} (m2 : b.mode = 2) (ho : 0 ≤ b.over ∧ b.over ≤ 4000) (hl : 0 ≤ b.left ∧ b.left ≤ 4000) (h1 : 1 ≤ b.trail.length) (h2 : b.trail.length ≤ 5200) {v : Int} (hV : 0 ≤ v ∧ v ≤ 60) :
    ∃ vv, g_body_Move n pos len b v = some (finF p len (wayF p pos b.over 70 v b.left b.trail) vv) ∧ Far p b.over b.left v vv b.trail (wayF p pos b.over 70 v b.left b.trail) := by
  obtain ⟨vv, far, -, hw⟩ := way_far hn hv pos b v ho 70 v b.left b.trail hV hl h1 (by omega) (by unfold restM; split <;> omega)
  obtain ⟨w1, w2, w3, a, w4, w5, w6⟩ := way_ok hv pos b.over 70 v b.left b.trail hV.1 hl
  refine ⟨vv, ?_, far⟩
  have h0 : ((b.trail.length : Int) == 0) = false := by rw [beq_eq_false_iff_ne]; omega
  have hf := fin_eq hn hv len (wayF p pos b.over 70 v b.left b.trail) vv w2 (by omega) (by rw [w4]; simp; omega) (by rw [w4]; simp; omega)
  unfold g_body_Move
  simp only [Clone_ports b.trail (by omega), Option.bind_some, hold60, held_id hV, cbne, cbeq, m2, show ¬ (2 : Int) = 1 by decide, if_true, if_false, h0, cond_false, hw]
  exact hf

/-- The way of a body that meets a Gate is longer than what was left. -/
theorem way_over (p : Plan) (pos : List Int) (ov : Int) (k : Nat) (m left : Int) (tr : List Port) (h : ov < (wayF p pos ov k m left tr).2.2.1) : left < m := by
  cases k with
  | zero => simp [wayF] at h
  | succ k =>
    simp only [wayF] at h
    split at h
    · simp at h
    · omega

theorem BodyFar_true (p : Plan) (pos : List Int) (len : Int) (b : Body) (v : Int) (hv8 : (Lit.int .u8 v).wf = true) : g_L23_BodyFar p pos len b v = some true := by
  have hx : 0 ≤ v ∧ v ≤ 255 := by simpa [Lit.wf, IntKind.min, IntKind.max, IntKind.signed, IntKind.bits] using hv8
  have e1 : wi64 v = v := by rw [wi64_id] <;> omega
  unfold g_L23_BodyFar
  simp only [known23, Option.bind_some, Bool.not_true, cond_false]
  by_cases m2 : b.mode = 2
  case neg =>
    have : (b.mode != 2) = true := by simp [m2]
    simp only [this, cond_true, Option.bind_some]
  have mb : (b.mode != 2) = false := by simp [m2]
  simp only [mb, cond_false]
  by_cases a0 : 0 < b.over
  · simp only [a0, decide_true, cond_true, Option.bind_some]
  by_cases a1 : (100 : Int) < (pos.length : Int)
  · simp only [a0, a1, decide_true, decide_false, cond_false, cond_true, Option.bind_some]
  by_cases a2 : (5000 : Int) < (b.trail.length : Int)
  · simp only [a0, a1, a2, decide_true, decide_false, cond_false, cond_true, Option.bind_some]
  obtain ⟨f, hf, hfine⟩ := fine_total p
  simp only [a0, a1, a2, decide_false, cond_false, hf, Option.bind_some]
  cases f with
  | false => rfl
  | true =>
    have hv := hfine rfl
    obtain ⟨r, hr, hr'⟩ := MayBody_total p hv len b (by omega)
    simp only [Bool.not_true, cond_false, hr, Option.bind_some]
    cases r with
    | false => rfl
    | true =>
      have hb := hr' rfl
      have hlen := hb.len
      have hl : b.trail.length ≤ 5000 := by omega
      obtain ⟨n, h1, hno⟩ := case_total p pos len b (by omega) hl hf hr
      have hh := hb.heads (.inl m2)
      have hne := hh.ne
      have ho : b.over = 0 := by have := hb.over; omega
      have hm0 : ∃ m, m = (if 60 < wi64 v then 60 else wi64 v) ∧ 0 ≤ m ∧ m ≤ 60 := ⟨_, rfl, by rw [e1]; split <;> omega⟩
      obtain ⟨m, hme, hV⟩ := hm0
      obtain ⟨vv, hm, far⟩ := Move_far hno hv pos len m2 hb.over hb.left hne (by omega) (v := m) hV
      obtain ⟨h, hi, hi'⟩ := last_idx hne (by omega)
      have hlast : b.trail.getLast? = some h := by rw [List.getLast?_eq_getElem?]; exact hi'
      obtain ⟨rr, hrun⟩ := Run_eq hno pos h
      obtain ⟨a, rest, w1, w2⟩ := way_run p pos b.over 70 100 m b.left b.trail h hlast (by omega)
      have hrl := run_len p pos 100 h
      have hover := way_over p pos b.over 70 m b.left b.trail
      obtain ⟨q1, q2, q3, -⟩ := way_ok hv pos b.over 70 m b.left b.trail hV.1 hb.left
      have hleft := hb.left
      simp only [Bool.not_true, cond_false, h1, Option.bind_some, optM, ← hme, hm, hi, hrun]
      generalize hw : wayF p pos b.over 70 m b.left b.trail = e at *
      by_cases hq : len ≤ e.2.2.1
      · have := hover (by omega)
        have d1 : decide (b.left < m) = true := by simpa using this
        have d2 : decide (len ≤ m) = true := by simp; omega
        simp only [finF, if_pos hq, beq_self_eq_true, cond_true, Option.bind_some, d1, d2, bne_self_eq_false, cond_false]
      · have h3 : e.1 ≠ 3 := by omega
        have hb3 : (e.1 == 3) = false := beq_eq_false_iff_ne.2 h3
        have hn3 : (e.1 != 3) = true := by simp [h3]
        by_cases ho2 : 0 < e.2.2.1
        · have := hover (by omega)
          have d1 : decide (b.left < m) = true := by simpa using this
          simp only [finF, if_neg hq, hb3, hn3, cond_false, cond_true, Option.bind_some, ho2, decide_true, d1]
        · have e2 : wi64 (b.left - e.2.1) = b.left - e.2.1 := by rw [wi64_id] <;> omega
          simp only [finF, if_neg hq, hb3, cond_false, Option.bind_some, ho2, decide_false, e2]
          -- the loop
          have step : ∀ (i : Nat) (s : Int), g_L23_BodyFar_l1 v n (runF p pos 100 h, rr) (s, (i : Int)) = if i < (runF p pos 100 h).length then (if m ≤ s then some (.inr s) else some (.inl (wi64 (s + lengthP p ((runF p pos 100 h)[i]?.getD ⟨0, 0⟩).elem), wi64 ((i : Int) + 1)))) else some (.inr s) := by
            intro i s
            by_cases c : i < (runF p pos 100 h).length
            · have hg : (runF p pos 100 h)[i]? = some ((runF p pos 100 h)[i]'c) := List.getElem?_eq_getElem c
              have d : decide ((i : Int) < ((runF p pos 100 h).length : Int)) = true := by simpa using c
              simp only [g_L23_BodyFar_l1, d, cond_true, idx_nat, hg, Option.bind_some, ← hme, net_Length hno, if_pos c, Option.getD_some]
              by_cases c2 : m ≤ s
              · simp only [decide_eq_true c2, cond_true, if_pos c2]
              · simp only [decide_eq_false c2, cond_false, if_neg c2]
            · have d : decide ((i : Int) < ((runF p pos 100 h).length : Int)) = false := by simp; omega
              simp only [g_L23_BodyFar_l1, d, cond_false, if_neg c]
          rcases far with ⟨f1, f2⟩ | f | ⟨a', f1, f2, f3⟩
          · -- the way ended
            obtain ⟨t, ht, -⟩ := loop_up (step := g_L23_BodyFar_l1 v n (runF p pos 100 h, rr)) (Post := fun _ => True) (s := (b.left - e.2.1, (0 : Int))) (fun k s => s.2 = (k : Int)) 101 (by
              rintro k ⟨s, i⟩ hk
              simp only at hk
              subst hk
              rw [step]
              by_cases c : k < (runF p pos 100 h).length
              · rw [if_pos c]
                by_cases c2 : m ≤ s
                · exact .inl ⟨s, by rw [if_pos c2], trivial⟩
                · exact .inr ⟨by omega, _, by rw [if_neg c2], by simp only; exact wi64_succ (by omega)⟩
              · exact .inl ⟨s, by rw [if_neg c], trivial⟩) rfl
            rw [ht]
            simp only [Option.bind_some, f1, f2, beq_self_eq_true, cond_true]
            cases (t == m) <;> rfl
          · omega
          · have haa : a' = a := by rw [w1] at f1; exact (List.append_cancel_left f1).symm
            subst haa
            obtain ⟨t, ht, rfl⟩ := loop_up (step := g_L23_BodyFar_l1 v n (runF p pos 100 h, rr)) (Post := fun t => t = m) (s := (b.left - e.2.1, (0 : Int))) (fun k s => s.2 = (k : Int) ∧ k ≤ a'.length ∧ s.1 = b.left - e.2.1 + sumL p (a'.take k)) 101 (by
              rintro k ⟨s, i⟩ ⟨hk, hka, hs⟩
              simp only at hk hs
              subst hk hs
              rw [step]
              by_cases c : k < a'.length
              · have hc : k < (runF p pos 100 h).length := by rw [w2]; simp; omega
                have hlt := f3 k c
                have hg : (runF p pos 100 h)[k]? = some (a'[k]'c) := by rw [w2, List.getElem?_append_left c]; exact List.getElem?_eq_getElem c
                have ht1 : a'.take (k + 1) = a'.take k ++ [a'[k]'c] := by rw [List.take_add_one, List.getElem?_eq_getElem c]; rfl
                obtain ⟨l1, l2, -⟩ := lengthP_le hv.args (a'[k]'c).elem
                have hsum : sumL p (a'.take (k + 1)) = sumL p (a'.take k) + lengthP p (a'[k]'c).elem := by rw [ht1, sumL_append]; simp [sumL]
                have hpos := sumL_nonneg hv (a'.take k)
                refine .inr ⟨by omega, _, by rw [if_pos hc, if_neg (by omega)], ?_⟩
                simp only [hg, Option.getD_some]
                refine ⟨wi64_succ (by omega), by omega, ?_⟩
                rw [wi64_id (by omega) (by omega), hsum]; omega
              · have hk : k = a'.length := by omega
                have hfull : a'.take k = a' := by rw [hk]; exact List.take_length
                rw [hfull]
                left
                refine ⟨_, ?_, f2⟩
                split
                · rw [if_pos (by omega)]
                · rfl) ⟨rfl, by omega, by simp [sumL]⟩
            rw [ht]
            simp only [Option.bind_some, beq_self_eq_true, cond_true]

end Go.E
