/- Plain Lean: Move is one. No condition. -/
import Derived.KernelRfl
import Derived.Test.YtceolngncngldaaGreatJ5
set_option linter.unusedVariables false
set_option linter.unusedSimpArgs false
namespace Go.E
open Go

theorem slI_tail {l : List Port} (h : 1 ≤ l.length) : slI l 1 (l.length : Int) = some (l.drop 1) := by
  unfold slI
  rw [if_pos (by omega)]
  simp

theorem delI_first {l : List Port} (h : 1 ≤ l.length) : delI l 0 1 = some (l.drop 1) := by
  unfold delI
  rw [if_pos (by omega)]
  simp

theorem has_eq {p : Plan} {n : Net} (hn : NetOf p n) (hv : Valid p) (b : Body) (h1 : 1 ≤ b.trail.length) (hl : b.trail.length ≤ 6000) (h2 : 0 ≤ b.left ∧ b.left ≤ 4000) (h3 : 0 ≤ b.over ∧ b.over ≤ 4060) :
    g_body_has n b = some (roomF p (b.over - b.left) (b.trail.drop 1)) := by
  unfold g_body_has
  rw [slI_tail h1]
  simp only [Option.bind_some]
  rw [wi64_id (n := b.over - b.left) (by omega) (by omega)]
  refine room_loop hv.args (b.trail.drop 1) (by simp; omega) _ (by omega) (fun s => some (.inr s)) (fun i h s hi => ?_) (fun s => ?_) (fun s => ⟨s, rfl⟩) _ rfl
  · simp only [g_body_has_l1, dlt hi, cond_true, idx_nat, hi, Option.bind_some, net_Length hn]
  · simp only [g_body_has_l1, dge, cond_false]

theorem tail_eq {p : Plan} {n : Net} (hn : NetOf p n) (hv : Valid p) (len : Int) (e : Int × Int × Int × Int × List Port) (h2 : 0 ≤ e.2.1 ∧ e.2.1 ≤ 4000) (h3 : 0 ≤ e.2.2.1 ∧ e.2.2.1 ≤ 4060) (tr : List Port) (h1 : 1 ≤ tr.length) (hl : tr.length ≤ 5200) :
    ∃ tr', loopR (g_body_Move_l2 n len e) tr = some ⟨e.1, tr', e.2.1, e.2.2.1, e.2.2.2.1⟩ ∧ loopR (g_R24_shorter_l1 p len ⟨e.1, e.2.2.2.2, e.2.1, e.2.2.1, e.2.2.2.1⟩) tr = some tr' ∧ tr'.length ≤ 5200 ∧ 1 ≤ tr'.length ∧ tr'.length ≤ tr.length ∧ tr'.getLast? = tr.getLast? := by
  obtain ⟨a, b, ha, hb, rfl, hle, q1, q2, q3⟩ := loop_two (f := g_body_Move_l2 n len e) (g := g_R24_shorter_l1 p len ⟨e.1, e.2.2.2.2, e.2.1, e.2.2.1, e.2.2.2.1⟩) (Post := fun a b => a = ⟨e.1, b, e.2.1, e.2.2.1, e.2.2.2.1⟩ ∧ b.length ≤ 5200 ∧ 1 ≤ b.length ∧ b.length ≤ tr.length ∧ b.getLast? = tr.getLast?)
    (fun k s t => s = t ∧ 1 ≤ s.length ∧ s.length + k ≤ tr.length ∧ s.getLast? = tr.getLast?) 5200
    (fun k s t => by
      rintro ⟨rfl, c1, c2, c3⟩
      by_cases hd : (1 : Int) < (s.length : Int)
      · have hdd : decide ((1 : Int) < (s.length : Int)) = true := by simpa using hd
        have hh := has_eq hn hv ⟨e.1, s, e.2.1, e.2.2.1, e.2.2.2.1⟩ c1 (by simp only; omega) h2 h3
        simp only at hh
        simp only [g_body_Move_l2, g_R24_shorter_l1, hdd, cond_true, hh, Option.bind_some, slI_tail c1]
        rw [wi64_id (n := e.2.2.1 - e.2.1) (by omega) (by omega)]
        have inner : ∀ r, ((bif decide (roomF p (e.2.2.1 - e.2.1) (s.drop 1) < len) then some (.inr s) else (slI s 1 (s.length : Int)).bind fun y756 => some (.inl y756)) : Option (List Port ⊕ List Port)) = some r →
            loopR (g_R24_shorter_l2 p len s (s.drop 1)) (e.2.2.1 - e.2.1, 0) = some r := by
          intro r hr
          refine room_loop hv.args (s.drop 1) (by simp; omega) _ (by omega) (fun x => ((bif decide (x < len) then some (.inr s) else (slI s 1 (s.length : Int)).bind fun y756 => some (.inl y756)) : Option (List Port ⊕ List Port)).map .inr) (fun i h x hi => ?_) (fun x => ?_) (fun x => ?_) _ ?_
          · simp only [g_R24_shorter_l2, dlt hi, cond_true, idx_nat, hi, Option.bind_some, g_R6_Length_eq]
          · simp only [g_R24_shorter_l2, dge, cond_false]
          · rw [slI_tail c1]
            cases decide (x < len)
            · exact ⟨_, rfl⟩
            · exact ⟨_, rfl⟩
          · rw [hr]; rfl
        by_cases hr : len ≤ roomF p (e.2.2.1 - e.2.1) (s.drop 1)
        · right
          have d1 : decide (len ≤ roomF p (e.2.2.1 - e.2.1) (s.drop 1)) = true := decide_eq_true hr
          have d2 : decide (roomF p (e.2.2.1 - e.2.1) (s.drop 1) < len) = false := decide_eq_false (by omega)
          refine ⟨by omega, s.drop 1, s.drop 1, ?_, inner _ ?_, rfl, by simp; omega, by simp; omega, by rw [List.getLast?_drop, if_neg (by omega)]; exact c3⟩
          · simp only [d1, cond_true, delI_first c1, Option.bind_some]
          · simp only [d2, cond_false, slI_tail c1, Option.bind_some]
        · left
          have d1 : decide (len ≤ roomF p (e.2.2.1 - e.2.1) (s.drop 1)) = false := decide_eq_false hr
          have d2 : decide (roomF p (e.2.2.1 - e.2.1) (s.drop 1) < len) = true := decide_eq_true (by omega)
          refine ⟨⟨e.1, s, e.2.1, e.2.2.1, e.2.2.2.1⟩, s, ?_, inner _ ?_, rfl, by omega, c1, by omega, c3⟩
          · simp only [d1, cond_false]
          · simp only [d2, cond_true]
      · have hdd : decide ((1 : Int) < (s.length : Int)) = false := by simpa using hd
        exact .inl ⟨⟨e.1, s, e.2.1, e.2.2.1, e.2.2.2.1⟩, s, by simp only [g_body_Move_l2, hdd, cond_false, Option.bind_some], by simp only [g_R24_shorter_l1, hdd, cond_false], rfl, by omega, c1, by omega, c3⟩)
    (s := tr) (t := tr) ⟨rfl, h1, by omega, rfl⟩
  exact ⟨b, ha, hb, hle, q1, q2, q3⟩

theorem Clone_ports (l : List Port) (h : l.length ≤ 1000000) : g_slices_Clone_apiPort l = some l := clone_eq l h

theorem Move_eq {p : Plan} {n : Net} (hn : NetOf p n) (hv : Valid p) {len : Int} {b : Body} (hb : BodyOK p len b) (hl : b.trail.length ≤ 5000) (pos : List Int) (v : Int) :
    ∃ r, (g_body_Move n pos len b v = some r ∧ g_R24_Move p pos len b v = some r) ∧ r.trail.length ≤ 5200 ∧ (b.mode ≠ 2 → r = b ∨ (b.mode = 1 ∧ heldF v 0 60 ≠ 0 ∧ r.mode ≠ 1)) ∧
      (b.mode = 1 → ∀ h y, b.trail = [h] → nextP p h = some y → (r.mode = 1 ↔ heldF v 0 60 = 0 ∨ goP p pos y = none)) := by
  have hV := heldF_le (x := v) (lo := 0) (hi := 60) (by omega)
  have hlen := hb.len
  unfold g_body_Move g_R24_Move
  simp only [Clone_ports b.trail (by omega), Option.bind_some, R24_hold_eq (show (0 : Int) ≤ 60 by omega), hold60, cbne, cbeq]
  -- what comes behind the way
  have rest : ∀ e : Int × Int × Int × Int × List Port, EndOK b.trail e ∨ (0 ≤ e.2.1 ∧ e.2.1 ≤ 4000 ∧ 0 ≤ e.2.2.1 ∧ e.2.2.1 ≤ 4060 ∧ 1 ≤ e.2.2.2.2.length ∧ e.2.2.2.2.length ≤ 5200) →
      ∃ r, (bif decide (len ≤ e.2.2.1) then some (⟨3, [], 0, 0, 0⟩ : Body) else loopR (g_body_Move_l2 n len e) e.2.2.2.2) = some r ∧ (r.trail.length ≤ 5200 ∧ (e.1 = 2 ∨ e.1 = 4 → r.mode ≠ 1)) ∧
        (bif decide (len ≤ e.2.2.1) then some (⟨3, [], 0, 0, 0⟩ : Body) else (g_R24_shorter p len ⟨e.1, e.2.2.2.2, e.2.1, e.2.2.1, e.2.2.2.1⟩).bind fun y => some y) = some r := by
    intro e he
    have he' : 0 ≤ e.2.1 ∧ e.2.1 ≤ 4000 ∧ 0 ≤ e.2.2.1 ∧ e.2.2.1 ≤ 4060 ∧ 1 ≤ e.2.2.2.2.length ∧ e.2.2.2.2.length ≤ 5200 := by
      rcases he with h | h
      · exact ⟨h.left.1, h.left.2, h.over.1, h.over.2, h.ne, by have := h.le; omega⟩
      · exact h
    obtain ⟨a1, a2, a3, a4, a5, a6⟩ := he'
    cases decide (len ≤ e.2.2.1) with
    | true => exact ⟨_, rfl, ⟨by simp, by simp⟩, rfl⟩
    | false =>
      obtain ⟨t, h1, h2, h3, -⟩ := tail_eq hn hv len e ⟨a1, a2⟩ ⟨a3, a4⟩ e.2.2.2.2 a5 a6
      refine ⟨_, h1, ⟨h3, fun h => by simp only; omega⟩, ?_⟩
      unfold g_R24_shorter
      simp only [cond_false, h2, Option.bind_some]
  by_cases m3 : b.mode = 3
  · refine ⟨b, ⟨?_, by simp [m3]⟩, by omega, fun _ => .inl rfl, fun h => by omega⟩
    simp only [m3]
    cases b; simp only at m3; subst m3; simp
  by_cases m4 : b.mode = 4
  · refine ⟨b, ⟨?_, by simp [m4]⟩, by omega, fun _ => .inl rfl, fun h => by omega⟩
    cases b; simp only at m4; subst m4; simp
  have hap : appI ([] : List Port) b.trail = some b.trail := by rw [appI_ok (by simp; omega)]; rfl
  by_cases m2 : b.mode = 2
  · have hh := hb.heads (.inl m2)
    have hne := hh.ne
    have h0 : ((b.trail.length : Int) == 0) = false := by rw [beq_eq_false_iff_ne]; omega
    obtain ⟨e, e1, e2, e3⟩ := runs_eq hn hv pos b v hb.over hV hb.left hh.ne (by omega) (.inl (by omega))
    obtain ⟨r, r1, r3, r2⟩ := rest e (.inl e3)
    refine ⟨r, ⟨?_, ?_⟩, r3.1, fun h => absurd m2 h, fun h => by omega⟩
    · simp only [m2, show ¬ (2 : Int) = 1 by decide, if_true, if_false, h0, Option.bind_some, cond_false, e1]
      exact r1
    · simp only [m2, show ¬ (2 : Int) = 1 by decide, show ¬ (2 : Int) = 3 by decide, show ¬ (2 : Int) = 4 by decide, if_false, Option.bind_some, cond_false, hap, e2, seqR]
      exact r2
  have m1 : b.mode = 1 := by rcases hb.mode with h | h | h | h <;> omega
  obtain ⟨h, ht, hf0, hk4⟩ := hb.waits m1
  obtain ⟨s1, s2, s3⟩ := hb.still (by omega)
  by_cases hV0 : heldF v 0 60 = 0
  · refine ⟨b, ⟨?_, ?_⟩, by omega, fun _ => .inl rfl, fun _ h y _ _ => by simp [m1, hV0]⟩
    · have h0 : ((b.trail.length : Int) == 0) = false := by rw [ht]; rfl
      have hv0 : (heldF v 0 60 == 0) = true := by rw [hV0]; rfl
      simp only [m1, if_true, h0, Option.bind_some, cond_false, hv0, cond_true, hV0]
      cases b; simp only at m1 s3; subst m1 s3; rfl
    · have hv0 : (heldF v 0 60 == 0) = true := by rw [hV0]; rfl
      simp only [m1, show ¬ (1 : Int) = 3 by decide, show ¬ (1 : Int) = 4 by decide, if_true, if_false, hv0, Option.bind_some, cond_true]
  · have hv0 : (heldF v 0 60 == 0) = false := beq_eq_false_iff_ne.2 hV0
    have hpos : 0 < heldF v 0 60 := by omega
    have h0 : ((b.trail.length : Int) == 0) = false := by rw [ht]; rfl
    -- the first round
    have hh : hasP p h = true := by simp [hasP, hf0, hk4, endsF]
    obtain ⟨el, hel, hke⟩ := hasP_idx hh
    obtain ⟨q1, q2⟩ := idx_at hel
    obtain ⟨y, hy, hyk⟩ := hv.join.gate _ el q1 (by rw [← hke]; exact hk4)
    have hnx : nextP p h = some y := by
      rw [← hy, ← q2, ← hf0]
    have hd : decide (0 < heldF v 0 60) = true := by simpa using hpos
    have hst := step_held (m := heldF v 0 60) (l := 0) hpos (by omega)
    have hml : ¬ heldF v 0 60 ≤ 0 := by omega
    have hmd : decide (heldF v 0 60 ≤ 0) = false := decide_eq_false hml
    have e2 : wi64 (heldF v 0 60 - 0) = heldF v 0 60 := by rw [wi64_id] <;> omega
    have hx : idx [h] (wi64 ((([h] : List Port).length : Int) - 1)) = some h := rfl
    have hg : throughP p y.elem y.fin ((idx pos y.elem).getD 0) = goP p pos y := rfl
    cases hgo : goP p pos y with
    | none =>
      refine ⟨b, ⟨?_, ?_⟩, by omega, fun _ => .inl rfl, fun _ h' y' q1 q2 => by
        rw [ht] at q1; cases q1; rw [hnx] at q2; cases q2
        simp [m1, hgo]⟩
      · have st : g_body_Move_l1 n pos b v (heldF v 0 60, 1, 0, [h]) = some (.inr (1, 0, 0, 0, [h])) := by
          simp only [g_body_Move_l1, hd, cond_true, hst, if_neg hml, show wi64 (0 - 0) = 0 by decide, e2, hv0, cond_false, hx, Option.bind_some, net_Next hn, hnx, Option.isSome_some, Option.getD_some, Bool.not_true, net_Kind hn, cbeq, if_neg hyk, prog_pos (hv.join.next hnx), net_Through hn, hg, hgo, show ¬ (0 : Int) > 0 by omega, if_false, s2]
          rfl
        have hl1 : decide (len ≤ (0 : Int)) = false := decide_eq_false (by omega)
        have l2 : loopR (g_body_Move_l2 n len (1, 0, 0, 0, [h])) [h] = some ⟨1, [h], 0, 0, 0⟩ := loopR_inr rfl
        simp only [m1, if_true, h0, Option.bind_some, cond_false, hv0, s1, ht, loopR_inr st, hl1, l2]
        cases b; simp only at m1 ht s1 s2 s3; subst m1 ht s1 s2 s3; rfl
      · have st : g_R24_Move_l1 p pos b (heldF v 0 60) (heldF v 0 60, 0, [h]) = some (.inr (.inr b)) := by
          have i0 : idx [h] 0 = some h := rfl
          simp only [g_R24_Move_l1, hd, cond_true, hmd, cond_false, hx, Option.bind_some, R24_ahead_eq hv, hnx, if_neg hyk, hgo, cbeq, show ¬ ((4 : Int) = 2) by decide, if_false, if_true, m1, ht, i0]
          simp
        simp only [m1, show ¬ (1 : Int) = 3 by decide, show ¬ (1 : Int) = 4 by decide, if_true, if_false, hv0, Option.bind_some, cond_false, hap]
        rw [s1, ht, loopR_inr st]; rfl
    | some o =>
      have hlen' := lengthP_le hv.args y.elem
      have st1 : g_body_Move_l1 n pos b v (heldF v 0 60, 1, 0, [h]) = some (.inl (heldF v 0 60, 2, lengthP p y.elem, [h, ⟨y.elem, o⟩])) := by
        simp only [g_body_Move_l1, hd, cond_true, hst, if_neg hml, show wi64 (0 - 0) = 0 by decide, e2, hv0, cond_false, hx, Option.bind_some, net_Next hn, hnx, Option.isSome_some, Option.getD_some, Bool.not_true, net_Kind hn, cbeq, if_neg hyk, prog_pos (hv.join.next hnx), net_Through hn, hg, hgo, show ¬ (0 : Int) > 0 by omega, if_false]
        rw [appI_ok (by simp)]
        simp only [Option.bind_some, net_Length hn]; rfl
      have st2 : g_R24_Move_l1 p pos b (heldF v 0 60) (heldF v 0 60, 0, [h]) = some (.inl (heldF v 0 60, lengthP p y.elem, [h, ⟨y.elem, o⟩])) := by
        simp only [g_R24_Move_l1, hd, cond_true, hmd, cond_false, hx, Option.bind_some, R24_ahead_eq hv, hnx, if_neg hyk, hgo, cbeq, show ¬ ((0 : Int) = 2) by decide, show ¬ ((0 : Int) = 4) by decide, if_false, e2]
        have : ((0 : Int) != 0) = false := rfl
        simp only [this, cond_false]
        rw [appI_ok (by simp)]
        simp only [Option.bind_some, g_R6_Length_eq]; rfl
      obtain ⟨e, e1, e2', e3⟩ := runs_eq hn hv pos b v hb.over hV (left := lengthP p y.elem) (tr := [h, ⟨y.elem, o⟩]) ⟨hlen'.1, hlen'.2.1⟩ (by simp) (by simp) (.inr (by simp))
      obtain ⟨r, r1, r3, r2⟩ := rest e (.inr ⟨e3.left.1, e3.left.2, e3.over.1, e3.over.2, e3.ne, by have := e3.le; omega⟩)
      refine ⟨r, ⟨?_, ?_⟩, r3.1, fun _ => .inr ⟨m1, hV0, r3.2 e3.mode⟩, fun _ h' y' q1 q2 => by
        rw [ht] at q1; cases q1; rw [hnx] at q2; cases q2
        have := r3.2 e3.mode
        simp [hgo, hV0, this]⟩
      · simp only [m1, if_true, h0, Option.bind_some, cond_false, hv0, s1, ht, loopR_inl st1, e1]
        exact r1
      · simp only [m1, show ¬ (1 : Int) = 3 by decide, show ¬ (1 : Int) = 4 by decide, if_true, if_false, hv0, Option.bind_some, cond_false, hap]
        rw [s1, ht, loopR_inl st2, e2']
        exact r2

end Go.E
/- The known answers of layer 23, reckoned by the kernel. No condition. -/
namespace Go.E
open Go Go.Proofs
set_option maxRecDepth 100000
theorem known23 : g_L23_known = some true := by kernel_rfl

end Go.E
/- The known answers of layer 24, reckoned by the kernel. No condition. -/
namespace Go.E
open Go Go.Proofs
set_option maxRecDepth 100000
theorem known_holds : g_L24_known = some true := by kernel_rfl

end Go.E
/- Plain Lean: BodyStarts and BodyStill answer true, for every argument. No condition. -/
namespace Go.E
open Go

theorem SamePorts_refl (l : List Port) (hl : l.length < 1000000) : g_R6_SamePorts l l = some true := by
  unfold g_R6_SamePorts
  simp only [bne_self_eq_false, cond_false]
  obtain ⟨b, hb, rfl⟩ := loop_ix (l := l) (step := g_R6_SamePorts_l1 l l) (Post := fun b => b = true) (fun _ _ => True) (fun _ => ⟨true, by simp only [g_R6_SamePorts_l1, dge, cond_false], rfl⟩)
    (fun i a h _ => .inr ⟨by have := ilt h; simp only [g_R6_SamePorts_l1, dlt h, cond_true, idx_nat, h, Option.bind_some, beq_self_eq_true, Bool.not_true, cond_false, wi64_succ (show i < 1000000000 by omega)], trivial⟩)
  exact hb

theorem SameBody_refl (b : Body) (hl : b.trail.length < 1000000) : g_R24_SameBody b b = some true := by
  unfold g_R24_SameBody
  simp only [beq_self_eq_true, cond_true, SamePorts_refl _ hl, Option.bind_some]

section
variable {p : Plan} {n : Net}

end

/-- A case of these laws. -/
theorem case_total (p : Plan) (pos : List Int) (len : Int) (b : Body) (hp : pos.length ≤ 100) (hb : b.trail.length ≤ 5000) (hf : g_R6_Fine p = some true) (hm : g_R24_MayBody p len b = some true) : ∃ n, g_L23_Case p pos len b = some (some n) ∧ NetOf p n := by
  obtain ⟨o, ho, hn⟩ := made_total p
  obtain ⟨n, rfl, hno⟩ := hn hf
  refine ⟨n, ?_, hno⟩
  unfold g_L23_Case
  simp only [show ¬ (100 : Int) < (pos.length : Int) by omega, show ¬ (5000 : Int) < (b.trail.length : Int) by omega, decide_false, cond_false, hf, hm, Option.bind_some, Bool.not_true, ho, optM]

end Go.E
/- Plain Lean: LoopHeld answers true, for every argument. No condition. -/
namespace Go.E
open Go

theorem compact_mem {zs : List Int} {x : Int} (h : x ∈ zs) : x ∈ Lib.compact zs := by
  obtain ⟨j, hj⟩ := List.getElem?_of_mem h
  clear h
  induction j with
  | zero =>
    have hlt := (List.getElem?_eq_some_iff.1 hj).1
    refine List.mem_map.2 ⟨0, List.mem_filter.2 ⟨List.mem_range.2 hlt, by simp [Lib.keeps]⟩, ?_⟩
    obtain ⟨h1, h2⟩ := List.getElem?_eq_some_iff.1 hj
    simp [hlt, h2]
  | succ j ih =>
    obtain ⟨hlt, hv⟩ := List.getElem?_eq_some_iff.1 hj
    have e1 : zs.toArray[j + 1]! = x := by simp [hlt, hv]
    by_cases hk : Lib.keeps zs.toArray (j + 1) = true
    · exact List.mem_map.2 ⟨j + 1, List.mem_filter.2 ⟨List.mem_range.2 hlt, hk⟩, e1⟩
    · have hj1 : j < zs.length := by omega
      simp only [Lib.keeps, Nat.add_sub_cancel, decide_eq_true_eq, not_or, Decidable.not_not] at hk
      have e2 : zs.toArray[j]! = zs[j] := by simp [hj1]
      refine ih ?_
      rw [List.getElem?_eq_getElem hj1, ← e2, ← hk.2, e1]

theorem compact_len (zs : List Int) : (Lib.compact zs).length ≤ zs.length := by
  unfold Lib.compact Lib.compactUpTo
  rw [List.length_map]
  exact Nat.le_trans (List.length_filter_le _ _) (by simp)

section
variable {p : Plan} {n : Net}

theorem Lies_ok (hn : NetOf p n) (b : Body) (hl : b.trail.length ≤ 5000) : ∃ ls, g_body_Lies n b = some ls ∧ ls.length ≤ 5000 ∧ ∀ h ∈ b.trail, kindP p h.elem ≠ 4 → h.elem ∈ ls := by
  unfold g_body_Lies
  refine loop_st (l := b.trail) (I := fun i out => out.length ≤ i ∧ ∀ (j : Nat) h, j < i → b.trail[j]? = some h → kindP p h.elem ≠ 4 → h.elem ∈ out) (fun out ⟨h1, h2⟩ => ?_) (fun i h out hi ⟨h1, h2⟩ => ?_) ⟨by simp, fun j h hj => by omega⟩
  · have e1 : sortI out = some (isort out) := by unfold sortI; rw [if_pos (by omega)]
    have hp := isort_perm out
    have e2 : compI (isort out) = some (Lib.compact (isort out)) := by unfold compI; rw [if_pos (by rw [hp.length_eq]; omega)]
    refine ⟨Lib.compact (isort out), by simp only [g_body_Lies_l1, dge, cond_false, e1, e2, Option.bind_some, Option.map_some], ?_, fun h hh hk => ?_⟩
    · have := compact_len (isort out); have := hp.length_eq; omega
    · obtain ⟨j, hj⟩ := List.getElem?_of_mem hh
      exact compact_mem (hp.mem_iff.2 (h2 j h (ilt hj) hj hk))
  · have := ilt hi
    right
    by_cases hk : kindP p h.elem = 4
    · refine ⟨out, by simp only [g_body_Lies_l1, dlt hi, cond_true, idx_nat, hi, Option.bind_some, net_Kind hn, cbne, if_pos hk, wi64_succ (show i < 1000000000 by omega)], by omega, fun j g hj hg hkg => ?_⟩
      by_cases e : j = i
      · subst e; rw [hi] at hg; cases hg; exact absurd hk hkg
      · exact h2 j g (by omega) hg hkg
    · refine ⟨out ++ [h.elem], by simp only [g_body_Lies_l1, dlt hi, cond_true, idx_nat, hi, Option.bind_some, net_Kind hn, cbne, if_neg hk, appI_ok (show out.length + [h.elem].length ≤ 4294967296 by simp; omega), wi64_succ (show i < 1000000000 by omega)], by simp; omega, fun j g hj hg hkg => ?_⟩
      by_cases e : j = i
      · subst e; rw [hi] at hg; cases hg; simp
      · exact List.mem_append_left _ (h2 j g (by omega) hg hkg)

/-- Some truths, more of which are true. -/
theorem set_true {l : List Bool} {k j : Nat} (h : l[j]? = some true) : (l.set k true)[j]? = some true := by
  rw [List.getElem?_set]
  split
  · rename_i e; subst e
    rw [if_pos (List.getElem?_eq_some_iff.1 h).1]
  · exact h

theorem Occ_ok (hn : NetOf p n) (l : List Body) (hl : l.length ≤ 12) (hs : ∀ (i : Nat) b, l[i]? = some b → b.trail.length ≤ 5000) (hf : FewP p) :
    ∃ oc, g_loop_Occ n l = some oc ∧ oc.length = p.elems.length ∧ ∀ (i : Nat) b, l[i]? = some b → ∀ h ∈ b.trail, kindP p h.elem ≠ 4 → 0 ≤ h.elem → h.elem < (p.elems.length : Int) → oc[h.elem.toNat]? = some true := by
  have hel := hf.elems
  have hmk : mkI (n.p.elems.length : Int) false = some (List.replicate p.elems.length false) := by
    rw [hn.plan]; unfold mkI; rw [if_pos (by omega)]; simp
  unfold g_loop_Occ g_net_Net_Len
  simp only [Option.bind_some, hmk]
  refine loop_st (l := l) (I := fun i oc => oc.length = p.elems.length ∧ ∀ (j : Nat) b, j < i → l[j]? = some b → ∀ h ∈ b.trail, kindP p h.elem ≠ 4 → 0 ≤ h.elem → h.elem < (p.elems.length : Int) → oc[h.elem.toNat]? = some true)
    (fun oc ⟨h1, h2⟩ => ⟨oc, by simp only [g_loop_Occ_l1, dge, cond_false], h1, fun i b hi => h2 i b (ilt hi) hi⟩) (fun i b oc hi ⟨h1, h2⟩ => ?_) ⟨by simp, fun j b hj => by omega⟩
  right
  obtain ⟨ls, hls, hlen, hmem⟩ := Lies_ok hn b (hs i b hi)
  have hil := ilt hi
  have inner : ∃ r, loopR (g_loop_Occ_l2 ((i : Int), oc) ls) (0, oc) = some r ∧ ∃ oc', r = .inl (((i + 1 : Nat) : Int), oc') ∧ oc'.length = p.elems.length ∧ (∀ j : Nat, oc[j]? = some true → oc'[j]? = some true) ∧ ∀ e ∈ ls, 0 ≤ e → e < (p.elems.length : Int) → oc'[e.toNat]? = some true := by
    refine loop_st (l := ls) (I := fun k c => c.length = p.elems.length ∧ (∀ j : Nat, oc[j]? = some true → c[j]? = some true) ∧ ∀ (j : Nat) e, j < k → ls[j]? = some e → 0 ≤ e → e < (p.elems.length : Int) → c[e.toNat]? = some true)
      (fun c ⟨g1, g2, g3⟩ => ?_) (fun k e c hk ⟨g1, g2, g3⟩ => ?_) ⟨h1, fun _ h => h, fun j e hj => by omega⟩
    · exact ⟨_, by simp only [g_loop_Occ_l2, dge, cond_false, wi64_succ (show i < 1000000000 by omega)], c, rfl, g1, g2, fun e he => by
        obtain ⟨j, hj⟩ := List.getElem?_of_mem he
        exact g3 j e (ilt hj) hj⟩
    · have hkl := ilt hk
      right
      by_cases c1 : 0 ≤ e
      · by_cases c2 : e < (c.length : Int)
        · obtain ⟨y, hy⟩ := idx_of (l := c) (n := e) c1 c2
          refine ⟨c.set e.toNat true, by simp only [g_loop_Occ_l2, dlt hk, cond_true, idx_nat, hk, Option.bind_some, c1, c2, decide_true, hy, wi64_succ (show k < 1000000000 by omega)]; rfl, by simp [g1], fun j hj => set_true (g2 j hj), fun j x hj hx x0 x1 => ?_⟩
          by_cases ej : j = k
          · subst ej; rw [hk] at hx; cases hx
            rw [List.getElem?_set_self (by omega)]
          · exact set_true (g3 j x (by omega) hx x0 x1)
        · refine ⟨c, by simp only [g_loop_Occ_l2, dlt hk, cond_true, idx_nat, hk, Option.bind_some, c1, c2, decide_true, decide_false, cond_false, wi64_succ (show k < 1000000000 by omega)], g1, g2, fun j x hj hx x0 x1 => ?_⟩
          by_cases ej : j = k
          · subst ej; rw [hk] at hx; cases hx; omega
          · exact g3 j x (by omega) hx x0 x1
      · refine ⟨c, by simp only [g_loop_Occ_l2, dlt hk, cond_true, idx_nat, hk, Option.bind_some, c1, decide_false, cond_false, wi64_succ (show k < 1000000000 by omega)], g1, g2, fun j x hj hx x0 x1 => ?_⟩
        by_cases ej : j = k
        · subst ej; rw [hk] at hx; cases hx; omega
        · exact g3 j x (by omega) hx x0 x1
  obtain ⟨r, hr, oc', rfl, k1, k2, k3⟩ := inner
  refine ⟨oc', by simp only [g_loop_Occ_l1, dlt hi, cond_true, idx_nat, hi, Option.bind_some, hls, hr], k1, fun j x hj hx h hh hk h0 h4 => ?_⟩
  by_cases ej : j = i
  · subst ej; rw [hi] at hx; cases hx
    exact k3 _ (hmem h hh hk) h0 h4
  · exact k2 _ (h2 j x (by omega) hx h hh hk h0 h4)

theorem inside_ok (hn : NetOf p n) (hv : Valid p) {len : Int} {b : Body} (hb : BodyOK p len b) (hl : b.trail.length ≤ 5000) : ∃ s, g_loop_inside n b = some s ∧ (0 ≤ s → ∃ h, b.trail[b.trail.length - 1]? = some h ∧ b.mode = 2 ∧ readsP p h = s ∧ s < (p.signals.length : Int)) := by
  cases hlast : b.trail[b.trail.length - 1]? with
  | none =>
    have hnil : b.trail = [] := by
      have := List.getElem?_eq_none_iff.1 hlast
      exact List.length_eq_zero_iff.1 (by omega)
    refine ⟨-1, ?_, fun h => by omega⟩
    unfold g_loop_inside g_body_Head
    simp [hnil]
  | some h =>
    refine ⟨_, loop_inside_eq hn hv (show b.trail.length < 1000000 by omega) hlast hb.left.1, fun h0 => ?_⟩
    by_cases c : b.mode = 2 ∧ b.over = 0 ∧ 0 ≤ readsP p h ∧ b.left ≤ p.margin
    · rw [if_pos c] at h0 ⊢
      refine ⟨h, rfl, c.1, rfl, ?_⟩
      rcases readsP_cases p h with e | e <;> omega
    · rw [if_neg c] at h0; omega

theorem Loops_ok (hn : NetOf p n) (hv : Valid p) {len : Int} (l : List Body) (hl : l.length ≤ 12) (hs : ∀ (i : Nat) b, l[i]? = some b → b.trail.length ≤ 5000 ∧ BodyOK p len b) :
    ∃ r, g_loop_Loops n l = some r ∧ r.1.length = p.signals.length ∧ r.2.length = p.signals.length ∧ (∀ i : Nat, r.2[i]? = some true → r.1[i]? = some true) ∧
      ∀ i : Nat, r.1[i]? = some true → ∃ (j : Nat) (b : Body) (h : Port), l[j]? = some b ∧ b.trail[b.trail.length - 1]? = some h ∧ b.mode = 2 ∧ readsP p h = (i : Int) := by
  have hsg := hv.few.signals
  have hmk : mkI (n.p.signals.length : Int) false = some (List.replicate p.signals.length false) := by
    rw [hn.plan]; unfold mkI; rw [if_pos (by omega)]; simp
  have rep : ∀ i : Nat, ¬ (List.replicate p.signals.length false)[i]? = some true := fun i h => by
    have := List.eq_of_mem_replicate (List.mem_of_getElem? h)
    cases this
  unfold g_loop_Loops g_net_Net_Signals
  simp only [Option.bind_some, hmk]
  refine loop_st (l := l) (I := fun i (c : List Bool × List Bool) => c.1.length = p.signals.length ∧ c.2.length = p.signals.length ∧ (∀ i : Nat, c.2[i]? = some true → c.1[i]? = some true) ∧
      ∀ i : Nat, c.1[i]? = some true → ∃ (j : Nat) (b : Body) (h : Port), l[j]? = some b ∧ b.trail[b.trail.length - 1]? = some h ∧ b.mode = 2 ∧ readsP p h = (i : Int))
    (fun c hc => ⟨c, by simp only [g_loop_Loops_l1, dge, cond_false], hc⟩) (fun i b c hi ⟨h1, h2, h3, h4⟩ => ?_) ⟨by simp, by simp, fun i h => absurd h (rep i), fun i h => absurd h (rep i)⟩
  right
  obtain ⟨hb1, hb2⟩ := hs i b hi
  have hil := ilt hi
  obtain ⟨s, hin, hs'⟩ := inside_ok hn hv hb2 hb1
  by_cases c1 : 0 ≤ s
  · obtain ⟨h, g1, g2, g3, g4⟩ := hs' c1
    obtain ⟨y, hy⟩ := idx_of (l := c.1) (n := s) c1 (by omega)
    obtain ⟨z, hz⟩ := idx_of (l := c.2) (n := s) c1 (by omega)
    have key : ∀ w : Bool, (c.1.set s.toNat true).length = p.signals.length ∧ (c.2.set s.toNat w).length = p.signals.length ∧ (∀ i : Nat, (c.2.set s.toNat w)[i]? = some true → (c.1.set s.toNat true)[i]? = some true) ∧
        ∀ i : Nat, (c.1.set s.toNat true)[i]? = some true → ∃ (j : Nat) (b : Body) (h : Port), l[j]? = some b ∧ b.trail[b.trail.length - 1]? = some h ∧ b.mode = 2 ∧ readsP p h = (i : Int) := by
      intro w
      refine ⟨by simp [h1], by simp [h2], fun k hk => ?_, fun k hk => ?_⟩
      · by_cases e : s.toNat = k
        · subst e; exact List.getElem?_set_self (by omega)
        · rw [List.getElem?_set_ne e] at hk ⊢; exact h3 k hk
      · by_cases e : s.toNat = k
        · exact ⟨i, b, h, hi, g1, g2, by omega⟩
        · rw [List.getElem?_set_ne e] at hk; exact h4 k hk
    cases z with
    | true => exact ⟨(c.1.set s.toNat true, c.2.set s.toNat true), by simp only [g_loop_Loops_l1, dlt hi, cond_true, idx_nat, hi, Option.bind_some, hin, c1, show s < (c.1.length : Int) by omega, decide_true, hy, hz, wi64_succ (show i < 1000000000 by omega)]; rfl, key true⟩
    | false => exact ⟨(c.1.set s.toNat true, c.2.set s.toNat (b.v == 0)), by simp only [g_loop_Loops_l1, dlt hi, cond_true, idx_nat, hi, Option.bind_some, hin, c1, show s < (c.1.length : Int) by omega, decide_true, hy, hz, cond_false, wi64_succ (show i < 1000000000 by omega)]; rfl, key _⟩
  · exact ⟨c, by simp only [g_loop_Loops_l1, dlt hi, cond_true, idx_nat, hi, Option.bind_some, hin, c1, decide_false, cond_false, wi64_succ (show i < 1000000000 by omega)], h1, h2, h3, h4⟩

theorem Loops_none (hn : NetOf p n) (hf : FewP p) : g_loop_Loops n [] = some (List.replicate p.signals.length false, List.replicate p.signals.length false) := by
  have hsg := hf.signals
  have hmk : mkI (n.p.signals.length : Int) false = some (List.replicate p.signals.length false) := by
    rw [hn.plan]; unfold mkI; rw [if_pos (by omega)]; simp
  unfold g_loop_Loops g_net_Net_Signals
  simp only [Option.bind_some, hmk]
  exact loopR_inr (by simp [g_loop_Loops_l1])

theorem reads_at {x : Port} {i : Nat} (h : readsP p x = (i : Int)) : ∃ s, p.signals[i]? = some s ∧ s.at_ = x := by
  rcases readsF_spec x p.signals 0 with ⟨h1, _⟩ | ⟨k, s, h1, h2, h3, _⟩
  · unfold readsP at h; rw [h1] at h; omega
  · unfold readsP at h; rw [h3] at h
    have : k = i := by omega
    subst this
    exact ⟨s, h1, h2⟩

end

theorem LoopHeld_true (p : Plan) (len : Int) (l : List Body) : g_L24_LoopHeld p len l = some true := by
  unfold g_L24_LoopHeld
  simp only [known_holds, Option.bind_some, Bool.not_true, cond_false]
  by_cases c0 : (12 : Int) < (l.length : Int)
  · simp only [c0, decide_true, cond_true, Option.bind_some]
  obtain ⟨f, hf, hfine⟩ := fine_total p
  simp only [c0, decide_false, cond_false, hf, Option.bind_some]
  cases f with
  | false => rfl
  | true =>
    have hv := hfine rfl
    have hsg := hv.few.signals
    simp only [Bool.not_true, cond_false]
    have key : ∃ b, loopR (g_L24_LoopHeld_l1 p len l) ((0 : Nat) : Int) = some b ∧ b = true := by
     refine loop_ix (l := l) (step := g_L24_LoopHeld_l1 p len l) (Post := fun b => b = true) (fun _ b => b.trail.length ≤ 5000 ∧ BodyOK p len b) (fun good => ?_) (fun i b hi _ => ?_)
     · obtain ⟨o, ho, hn⟩ := made_total p
       obtain ⟨n, rfl, hno⟩ := hn hf
       obtain ⟨r, hr, r1, r2, r3, r4⟩ := Loops_ok hno hv l (by omega) good
       obtain ⟨oc, hoc, o1, o2⟩ := Occ_ok hno l (by omega) (fun i b hi => (good i b hi).1) hv.few
       have e1 : ((r.1.length : Int) != (p.signals.length : Int)) = false := by simp [r1]
       have e2 : ((r.2.length : Int) != (r.1.length : Int)) = false := by simp [r1, r2]
       have e3 : ((oc.length : Int) != (p.elems.length : Int)) = false := by simp [o1]
       refine ⟨true, ?_, rfl⟩
       simp only [g_L24_LoopHeld_l1, dge, cond_false, ho, Option.bind_some, optM, hr, hoc, e1, e2, e3]
       have key2 : ∃ q, loopR (g_L24_LoopHeld_l2 p n r oc) ((0 : Nat) : Int) = some q ∧ q = true := by
        refine loop_ix (l := r.1) (step := g_L24_LoopHeld_l2 p n r oc) (Post := fun b => b = true) (fun _ _ => True) (fun _ => ?_) (fun i y hi _ => ?_)
        · refine ⟨true, ?_, rfl⟩
          have e4 : (((List.replicate p.signals.length false).length : Int) != ((List.replicate p.signals.length false).length : Int)) = false := by simp
          simp only [g_L24_LoopHeld_l2, dge, cond_false, Loops_none hno hv.few, Option.bind_some, e4]
          obtain ⟨q, hq, rfl⟩ := loop_ix (l := List.replicate p.signals.length false) (step := g_L24_LoopHeld_l3 (List.replicate p.signals.length false, List.replicate p.signals.length false)) (Post := fun b => b = true) (fun _ _ => True)
            (fun _ => ⟨true, by simp only [g_L24_LoopHeld_l3, dge, cond_false], rfl⟩)
            (fun i y hi _ => by
              right
              have hy : y = false := List.eq_of_mem_replicate (List.mem_of_getElem? hi)
              subst hy
              have := ilt hi
              simp only [List.length_replicate] at this
              exact ⟨by simp only [g_L24_LoopHeld_l3, dlt hi, cond_true, idx_nat, hi, Option.bind_some, cond_false, wi64_succ (show i < 1000000000 by omega)], trivial⟩)
          rw [hq]; rfl
        · right
          have hil := ilt hi
          obtain ⟨s, hs⟩ : ∃ s, p.signals[i]? = some s := ⟨_, List.getElem?_eq_getElem (by omega)⟩
          obtain ⟨z, hz⟩ : ∃ z, r.2[i]? = some z := ⟨_, List.getElem?_eq_getElem (by omega)⟩
          have hocc : y = true → idx oc s.at_.elem = some true := by
            rintro rfl
            obtain ⟨j, b, h, q1, q2, q3, q4⟩ := r4 i hi
            obtain ⟨s', q5, q6⟩ := reads_at q4
            rw [hs] at q5; cases q5
            obtain ⟨b1, b2⟩ := good j b q1
            have hh := b2.heads (.inl q3)
            obtain ⟨p1, p2⟩ := hh.port _ h q2
            have hk : kindP p h.elem ≠ 4 := fun hk => by
              obtain ⟨w1, w2⟩ := p2 hk
              have := hh.ne; omega
            obtain ⟨e, he, -⟩ := hasP_idx p1
            obtain ⟨w1, w2⟩ := idx_len he
            have := o2 j b q1 h (List.mem_of_getElem? q2) hk w1 w2
            obtain ⟨u, hu⟩ := Int.eq_ofNat_of_zero_le w1
            rw [q6, hu, idx_nat]
            rw [hu] at this
            exact this
          have hzy : z = true → y = true := by
            rintro rfl
            have := r3 i hz
            rw [hi] at this; cases this; rfl
          refine ⟨?_, trivial⟩
          simp only [g_L24_LoopHeld_l2, dlt hi, cond_true, idx_nat, hs, hz, hi, Option.bind_some]
          cases z with
          | true =>
            obtain rfl := hzy rfl
            simp only [cond_true, Bool.not_true, cond_false, hocc rfl, Option.bind_some, wi64_succ (show i < 1000000000 by omega)]
          | false =>
            cases y with
            | true => simp only [cond_true, cond_false, hocc rfl, Option.bind_some, Bool.not_true, wi64_succ (show i < 1000000000 by omega)]
            | false => simp only [cond_false, Option.bind_some, wi64_succ (show i < 1000000000 by omega)]
       obtain ⟨q, hq, rfl⟩ := key2
       rw [show ((0 : Nat) : Int) = 0 from rfl] at hq
       rw [hq]; rfl
     · have := ilt hi
       by_cases a2 : (5000 : Int) < (b.trail.length : Int)
       · exact .inl ⟨true, by simp only [g_L24_LoopHeld_l1, dlt hi, cond_true, idx_nat, hi, Option.bind_some, a2, decide_true], rfl⟩
       · obtain ⟨r, hr, hr'⟩ := MayBody_total p hv len b (by omega)
         cases r with
         | false => exact .inl ⟨true, by simp only [g_L24_LoopHeld_l1, dlt hi, cond_true, idx_nat, hi, Option.bind_some, a2, decide_false, cond_false, hr, Bool.not_false], rfl⟩
         | true => exact .inr ⟨by simp only [g_L24_LoopHeld_l1, dlt hi, cond_true, idx_nat, hi, Option.bind_some, a2, decide_false, cond_false, hr, Bool.not_true, wi64_succ (show i < 1000000000 by omega)], by omega, hr' rfl⟩
    obtain ⟨b, hb, rfl⟩ := key
    exact hb

end Go.E
/- Plain Lean: a body's move as a function; two moves are one. No condition. -/
namespace Go.E
open Go

/-- A running body's way: mode, left, over, headings. -/
def wayF (p : Plan) (pos : List Int) (ov : Int) : Nat → Int → Int → List Port → Int × Int × Int × List Port
  | 0, _, left, tr => (2, left, ov, tr)
  | k + 1, m, left, tr => if m ≤ left then (2, left - m, ov, tr) else match tr.getLast? with
    | none => (2, 0, ov, tr)
    | some h => match nextP p h with
      | none => (2, 0, ov, tr)
      | some y => if kindP p y.elem = 4 then (2, 0, ov + (m - left), tr) else match goP p pos y with
        | none => (4, 0, ov, tr)
        | some o => wayF p pos ov k (m - left) (lengthP p y.elem) (tr ++ [⟨y.elem, o⟩])

def restM (m left : Int) : Int := if left = 0 then m + 1 else m

theorem next_len {p : Plan} (hv : Valid p) {h y : Port} (hn : nextP p h = some y) (hk : kindP p y.elem ≠ 4) : 1 ≤ lengthP p y.elem ∧ lengthP p y.elem ≤ 4000 := by
  have hh := hv.join.next hn
  obtain ⟨f1, f2, f3⟩ := hasP_fin hh
  obtain ⟨l1, l2, l3⟩ := lengthP_le hv.args y.elem
  refine ⟨l3 hk fun h0 => ?_, l2⟩
  rw [h0] at f3
  simp [endsF] at f3
  omega

theorem way_loop {p : Plan} {n : Net} (hn : NetOf p n) (hv : Valid p) (pos : List Int) (b : Body) (v : Int) (hb : 0 ≤ b.over ∧ b.over ≤ 4000) : ∀ (k : Nat) (m left : Int) (tr : List Port), 0 ≤ m ∧ m ≤ 60 → 0 ≤ left ∧ left ≤ 4000 → 1 ≤ tr.length → tr.length + k ≤ 5300 → restM m left ≤ k →
    ∃ vv, loopR (g_body_Move_l1 n pos b v) (m, 2, left, tr) = some ((wayF p pos b.over k m left tr).1, (wayF p pos b.over k m left tr).2.1, (wayF p pos b.over k m left tr).2.2.1, vv, (wayF p pos b.over k m left tr).2.2.2)
  | 0, m, left, tr, hm, hl, h1, h2, hr => by
    unfold restM at hr
    have hm0 : m = 0 := by split at hr <;> omega
    refine ⟨heldF v 0 60, loopR_inr ?_⟩
    simp only [g_body_Move_l1, hm0, show decide ((0 : Int) < 0) = false by decide, cond_false, hold60, wayF]
  | k + 1, m, left, tr, hm, hl, h1, h2, hr => by
    by_cases hm0 : 0 < m
    · have hd : decide (0 < m) = true := by simpa using hm0
      have hst := step_held hm0 hl.1
      by_cases hml : m ≤ left
      · refine ⟨heldF v 0 60, loopR_inr ?_⟩
        have e1 : wi64 (left - m) = left - m := by rw [wi64_id] <;> omega
        have e2 : (wi64 (m - m) == 0) = true := by rw [show m - m = 0 by omega]; rfl
        simp only [g_body_Move_l1, hd, cond_true, hst, hold60, if_pos hml, e2, e1, wayF]
        rw [if_neg (by omega)]
      · have e1 : wi64 (left - left) = 0 := by rw [show left - left = 0 by omega]; rfl
        have e2 : wi64 (m - left) = m - left := by rw [wi64_id] <;> omega
        have e3 : (wi64 (m - left) == 0) = false := by rw [e2, beq_eq_false_iff_ne]; omega
        obtain ⟨h, hx, hx'⟩ := last_idx (l := tr) h1 (by omega)
        have hlast : tr.getLast? = some h := by rw [List.getLast?_eq_getElem?]; exact hx'
        have hneg : ¬ (0 : Int) > 0 := by omega
        simp only [wayF, if_neg hml, hlast]
        cases hnx : nextP p h with
        | none =>
          refine ⟨0, loopR_inr ?_⟩
          simp only [g_body_Move_l1, hd, cond_true, hst, if_neg hml, e1, e3, cond_false, hx, Option.bind_some, net_Next hn, hnx, Option.isSome_none, Bool.not_false, hneg, if_false]
        | some y =>
          by_cases hk : kindP p y.elem = 4
          · refine ⟨heldF v 0 60, loopR_inr ?_⟩
            have e4 : wi64 (b.over + (m - left)) = b.over + (m - left) := by rw [wi64_id] <;> omega
            have e5 : (m - left == 0) = false := by rw [beq_eq_false_iff_ne]; omega
            simp only [g_body_Move_l1, hd, cond_true, hst, hold60, if_neg hml, e1, e3, cond_false, hx, Option.bind_some, net_Next hn, hnx, Option.isSome_some, Option.getD_some, Bool.not_true, net_Kind hn, hk, beq_self_eq_true, e2, e4, e5, cond_true, hneg, if_false, if_true]
          · simp only [if_neg hk]
            have hg : throughP p y.elem y.fin ((idx pos y.elem).getD 0) = goP p pos y := rfl
            have hkb : (kindP p y.elem == 4) = false := beq_eq_false_iff_ne.2 hk
            cases hgo : goP p pos y with
            | none =>
              refine ⟨0, loopR_inr ?_⟩
              simp only [g_body_Move_l1, hd, cond_true, hst, if_neg hml, e1, e3, cond_false, hx, Option.bind_some, net_Next hn, hnx, Option.isSome_some, Option.getD_some, Bool.not_true, net_Kind hn, hkb, prog_pos (hv.join.next hnx), net_Through hn, hg, hgo, Option.isSome_none, Bool.not_false, beq_self_eq_true, hneg, if_false]
            | some o =>
              obtain ⟨g1, g2⟩ := next_len hv hnx hk
              have hr' : restM (m - left) (lengthP p y.elem) ≤ (k : Int) := by
                unfold restM at hr ⊢
                rw [if_neg (by omega)]
                split at hr <;> omega
              obtain ⟨vv, hvv⟩ := way_loop hn hv pos b v hb k (m - left) (lengthP p y.elem) (tr ++ [⟨y.elem, o⟩]) (by omega) (by omega) (by simp) (by simp; omega) hr'
              refine ⟨vv, ?_⟩
              rw [loopR_inl (s' := (m - left, 2, lengthP p y.elem, tr ++ [⟨y.elem, o⟩])) (by
                simp only [g_body_Move_l1, hd, cond_true, hst, if_neg hml, e1, e2, cond_false, hx, Option.bind_some, net_Next hn, hnx, Option.isSome_some, Option.getD_some, Bool.not_true, net_Kind hn, hkb, prog_pos (hv.join.next hnx), net_Through hn, hg, hgo, show (m - left == 0) = false by rw [beq_eq_false_iff_ne]; omega]
                rw [appI_ok (by simp; omega)]
                simp only [Option.bind_some, net_Length hn])]
              exact hvv
    · have hm0' : m = 0 := by omega
      refine ⟨heldF v 0 60, loopR_inr ?_⟩
      simp only [g_body_Move_l1, hm0', show decide ((0 : Int) < 0) = false by decide, cond_false, hold60, wayF, hl.1, if_true]
      simp

/-! ### what is left of the trail -/
def trimF (p : Plan) (len c : Int) : List Port → List Port
  | [] => []
  | [h] => [h]
  | h :: g :: r => if len ≤ c + sumL p (g :: r) then trimF p len c (g :: r) else h :: g :: r

theorem roomF_sum (p : Plan) : ∀ (l : List Port) (s : Int), roomF p s l = s + sumL p l
  | [], s => by simp [roomF, sumL]
  | h :: r, s => by simp only [roomF, sumL, roomF_sum p r]; omega

theorem trim_suffix (p : Plan) (len c : Int) : ∀ tr : List Port, ∃ pre, tr = pre ++ trimF p len c tr ∧ (tr ≠ [] → trimF p len c tr ≠ [])
  | [] => ⟨[], rfl, by simp⟩
  | [h] => ⟨[], rfl, by simp [trimF]⟩
  | h :: g :: r => by
    unfold trimF
    split
    · obtain ⟨pre, h1, h2⟩ := trim_suffix p len c (g :: r)
      exact ⟨h :: pre, by rw [List.cons_append, ← h1], fun _ => h2 (by simp)⟩
    · exact ⟨[], rfl, fun h => h⟩

theorem trim_loop {p : Plan} {n : Net} (hn : NetOf p n) (hv : Valid p) (len : Int) (e : Int × Int × Int × Int × List Port) (h2 : 0 ≤ e.2.1 ∧ e.2.1 ≤ 4000) (h3 : 0 ≤ e.2.2.1 ∧ e.2.2.1 ≤ 4060) : ∀ (tr : List Port), 1 ≤ tr.length → tr.length ≤ 6000 →
    loopR (g_body_Move_l2 n len e) tr = some ⟨e.1, trimF p len (e.2.2.1 - e.2.1) tr, e.2.1, e.2.2.1, e.2.2.2.1⟩
  | [], h1, _ => by simp at h1
  | [h], _, _ => by
    refine loopR_inr ?_
    have hdd : decide ((1 : Int) < (([h] : List Port).length : Int)) = false := by simp
    simp only [g_body_Move_l2, hdd, cond_false, Option.bind_some, trimF]
  | h :: g :: r, h1, hl => by
    have hdd : decide ((1 : Int) < ((h :: g :: r).length : Int)) = true := by simp; omega
    have hh := has_eq hn hv ⟨e.1, h :: g :: r, e.2.1, e.2.2.1, e.2.2.2.1⟩ (by simp) (by simp only; exact hl) h2 h3
    simp only [List.drop_succ_cons, List.drop_zero, roomF_sum] at hh
    by_cases hc : len ≤ e.2.2.1 - e.2.1 + sumL p (g :: r)
    · rw [loopR_inl (s' := g :: r) (by
        simp only [g_body_Move_l2, hdd, cond_true, hh, Option.bind_some, decide_eq_true hc]
        rw [delI_first (by simp)]; rfl)]
      rw [trim_loop hn hv len e h2 h3 (g :: r) (by simp) (by simp at hl ⊢; omega)]
      simp only [trimF, if_pos hc]
    · refine loopR_inr ?_
      simp only [g_body_Move_l2, hdd, cond_true, hh, Option.bind_some, decide_eq_false hc, cond_false, trimF, if_neg hc]

theorem sumL_append (p : Plan) : ∀ a b : List Port, sumL p (a ++ b) = sumL p a + sumL p b
  | [], b => by simp [sumL]
  | h :: a, b => by simp only [List.cons_append, sumL, sumL_append p a b]; omega

theorem trim_trim (p : Plan) (len c1 c2 : Int) (app : List Port) : ∀ tr : List Port, tr ≠ [] → c1 ≤ c2 + sumL p app → trimF p len c2 (trimF p len c1 tr ++ app) = trimF p len c2 (tr ++ app)
  | [], h, _ => absurd rfl h
  | [h], _, _ => rfl
  | h :: g :: r, _, hc => by
    by_cases hq : len ≤ c1 + sumL p (g :: r)
    · have ih := trim_trim p len c1 c2 app (g :: r) (by simp) hc
      have e1 : trimF p len c1 (h :: g :: r) = trimF p len c1 (g :: r) := by rw [trimF, if_pos hq]
      rw [e1, ih]
      have e2 : len ≤ c2 + sumL p (g :: (r ++ app)) := by
        have := sumL_append p (g :: r) app
        rw [List.cons_append] at this
        omega
      show _ = trimF p len c2 (h :: g :: (r ++ app))
      rw [trimF, if_pos e2]; rfl
    · rw [trimF, if_neg hq]

/-! ### ways -/
theorem way_fuel {p : Plan} (hv : Valid p) (pos : List Int) (ov : Int) : ∀ (k k' : Nat) (m left : Int) (tr : List Port), 0 ≤ m → 0 ≤ left → restM m left ≤ k → restM m left ≤ k' → wayF p pos ov k m left tr = wayF p pos ov k' m left tr
  | 0, 0, _, _, _, _, _, _, _ => rfl
  | 0, k' + 1, m, left, tr, hm, hl, h1, _ => by
    have hm0 : m = 0 := by unfold restM at h1; split at h1 <;> omega
    simp [wayF, hm0, hl]
  | k + 1, 0, m, left, tr, hm, hl, _, h1 => by
    have hm0 : m = 0 := by unfold restM at h1; split at h1 <;> omega
    simp [wayF, hm0, hl]
  | k + 1, k' + 1, m, left, tr, hm, hl, h1, h2 => by
    simp only [wayF]
    split
    · rfl
    · rename_i hml
      cases tr.getLast? with
      | none => rfl
      | some h =>
        simp only
        cases hnx : nextP p h with
        | none => rfl
        | some y =>
          simp only
          split
          · rfl
          · rename_i hk
            cases goP p pos y with
            | none => rfl
            | some o =>
              obtain ⟨g1, g2⟩ := next_len hv hnx hk
              refine way_fuel hv pos ov k k' _ _ _ (by omega) (by omega) ?_ ?_
              · unfold restM at h1 ⊢; rw [if_neg (by omega)]; split at h1 <;> omega
              · unfold restM at h2 ⊢; rw [if_neg (by omega)]; split at h2 <;> omega

/-- What a way adds. -/
structure WayOK (p : Plan) (ov lf : Int) (tr : List Port) (e : Int × Int × Int × List Port) (m : Int) (k : Nat) : Prop where
  mode : e.1 = 2 ∨ e.1 = 4
  left : 0 ≤ e.2.1 ∧ e.2.1 ≤ 4000
  over : ov ≤ e.2.2.1 ∧ e.2.2.1 ≤ ov + m
  app : ∃ a, e.2.2.2 = tr ++ a ∧ a.length ≤ k ∧ ov - lf ≤ e.2.2.1 - e.2.1 + sumL p a

theorem way_ok {p : Plan} (hv : Valid p) (pos : List Int) (ov : Int) : ∀ (k : Nat) (m left : Int) (tr : List Port), 0 ≤ m → 0 ≤ left ∧ left ≤ 4000 → WayOK p ov left tr (wayF p pos ov k m left tr) m k
  | 0, m, left, tr, hm, hl => ⟨.inl rfl, hl, by simp [wayF]; omega, [], by simp [wayF], by simp, by simp [wayF, sumL]⟩
  | k + 1, m, left, tr, hm, hl => by
    simp only [wayF]
    split
    · rename_i hml
      exact ⟨.inl rfl, by simp only; omega, by simp only; omega, [], by simp, by simp, by simp only [sumL]; omega⟩
    · rename_i hml
      cases tr.getLast? with
      | none => exact ⟨.inl rfl, by simp, by simp only; omega, [], by simp, by simp, by simp only [sumL]; omega⟩
      | some h =>
        simp only
        cases hnx : nextP p h with
        | none => exact ⟨.inl rfl, by simp, by simp only; omega, [], by simp, by simp, by simp only [sumL]; omega⟩
        | some y =>
          simp only
          split
          · exact ⟨.inl rfl, by simp, by simp only; omega, [], by simp, by simp, by simp only [sumL]; omega⟩
          · rename_i hk
            cases goP p pos y with
            | none => exact ⟨.inr rfl, by simp, by simp only; omega, [], by simp, by simp, by simp only [sumL]; omega⟩
            | some o =>
              obtain ⟨g1, g2⟩ := next_len hv hnx hk
              obtain ⟨w1, w2, w3, a, w4, w5, w6⟩ := way_ok hv pos ov k (m - left) (lengthP p y.elem) (tr ++ [⟨y.elem, o⟩]) (by omega) (by omega)
              simp only
              refine ⟨w1, w2, by omega, ⟨y.elem, o⟩ :: a, by rw [w4]; simp, by simp; omega, ?_⟩
              simp only [sumL]
              omega

theorem way_pre (p : Plan) (pos : List Int) (ov : Int) (pre : List Port) : ∀ (k : Nat) (m left : Int) (tr : List Port), tr ≠ [] →
    wayF p pos ov k m left (pre ++ tr) = ((wayF p pos ov k m left tr).1, (wayF p pos ov k m left tr).2.1, (wayF p pos ov k m left tr).2.2.1, pre ++ (wayF p pos ov k m left tr).2.2.2)
  | 0, m, left, tr, _ => rfl
  | k + 1, m, left, tr, hne => by
    have hl : (pre ++ tr).getLast? = tr.getLast? := by
      rw [List.getLast?_append]
      cases h : tr.getLast? with
      | none => exact absurd (List.getLast?_eq_none_iff.1 h) hne
      | some x => rfl
    simp only [wayF, hl]
    split
    · rfl
    · cases tr.getLast? with
      | none => rfl
      | some h =>
        simp only
        cases nextP p h with
        | none => rfl
        | some y =>
          simp only
          split
          · rfl
          · cases goP p pos y with
            | none => rfl
            | some o =>
              simp only
              rw [List.append_assoc]
              exact way_pre p pos ov pre k _ _ (tr ++ [⟨y.elem, o⟩]) (by simp)

/-- Two ways are one. -/
theorem way_add {p : Plan} (hv : Valid p) (pos : List Int) : ∀ (k : Nat) (ov x y left : Int) (tr : List Port), 0 ≤ x → 0 ≤ y → 0 ≤ left → restM (x + y) left ≤ k → tr ≠ [] →
    ((wayF p pos ov k x left tr).1 = 4 → wayF p pos ov k (x + y) left tr = wayF p pos ov k x left tr) ∧
    ((wayF p pos ov k x left tr).1 ≠ 4 → ∀ k2 : Nat, restM y (wayF p pos ov k x left tr).2.1 ≤ k2 → wayF p pos (wayF p pos ov k x left tr).2.2.1 k2 y (wayF p pos ov k x left tr).2.1 (wayF p pos ov k x left tr).2.2.2 = wayF p pos ov k (x + y) left tr)
  | 0, ov, x, y, left, tr, hx, hy, hl, hr, _ => by
    have h0 : x = 0 ∧ y = 0 := by unfold restM at hr; split at hr <;> omega
    obtain ⟨rfl, rfl⟩ := h0
    refine ⟨fun h => by simp [wayF] at h, fun _ k2 _ => ?_⟩
    cases k2 <;> simp [wayF, hl]
  | k + 1, ov, x, y, left, tr, hx, hy, hl, hr, hne => by
    by_cases hxl : x ≤ left
    · have e1 : wayF p pos ov (k + 1) x left tr = (2, left - x, ov, tr) := by simp only [wayF, if_pos hxl]
      rw [e1]
      refine ⟨fun h => by simp at h, fun _ k2 h2 => ?_⟩
      simp only at h2 ⊢
      by_cases hs : x + y ≤ left
      · have e2 : wayF p pos ov (k + 1) (x + y) left tr = (2, left - (x + y), ov, tr) := by simp only [wayF, if_pos hs]
        rw [e2]
        cases k2 with
        | zero =>
          have : y = 0 := by unfold restM at h2; split at h2 <;> omega
          subst this
          simp [wayF]
        | succ k2 =>
          simp only [wayF, if_pos (show y ≤ left - x by omega)]
          rw [show left - x - y = left - (x + y) by omega]
      · cases k2 with
        | zero => unfold restM at h2; split at h2 <;> omega
        | succ k2 =>
          simp only [wayF, if_neg hs, if_neg (show ¬ y ≤ left - x by omega)]
          cases tr.getLast? with
          | none => rfl
          | some h =>
            simp only
            cases hnx : nextP p h with
            | none => rfl
            | some z =>
              simp only [show y - (left - x) = x + y - left by omega]
              split
              · rfl
              · rename_i hk
                cases goP p pos z with
                | none => rfl
                | some o =>
                  obtain ⟨g1, g2⟩ := next_len hv hnx hk
                  refine way_fuel hv pos ov k2 k _ _ _ (by omega) (by omega) ?_ ?_
                  · unfold restM at h2 ⊢; rw [if_neg (by omega)]; split at h2 <;> omega
                  · unfold restM at hr ⊢; rw [if_neg (by omega)]; split at hr <;> omega
    · have hs : ¬ x + y ≤ left := by omega
      obtain ⟨h, hlast⟩ : ∃ h, tr.getLast? = some h := by
        cases hq : tr.getLast? with
        | none => exact absurd (List.getLast?_eq_none_iff.1 hq) hne
        | some h => exact ⟨h, rfl⟩
      have stop : ∀ (k2 : Nat) (ov' : Int), restM y 0 ≤ k2 → (∀ m, 0 < m → wayF p pos ov' (k2 + 1) m 0 tr = wayF p pos ov' (k2 + 1) m 0 tr) := fun _ _ _ _ _ => rfl
      simp only [wayF, if_neg hxl, if_neg hs, hlast]
      cases hnx : nextP p h with
      | none =>
        refine ⟨fun h => by simp at h, fun _ k2 h2 => ?_⟩
        simp only at h2 ⊢
        cases k2 with
        | zero => unfold restM at h2; simp at h2; omega
        | succ k2 =>
          by_cases hy0 : y = 0
          · subst hy0; simp [wayF]
          · simp only [wayF, if_neg (show ¬ y ≤ 0 by omega), hlast, hnx]
      | some z =>
        simp only
        by_cases hk : kindP p z.elem = 4
        · simp only [if_pos hk]
          refine ⟨fun h => by simp at h, fun _ k2 h2 => ?_⟩
          cases k2 with
          | zero => unfold restM at h2; simp at h2; omega
          | succ k2 =>
            by_cases hy0 : y = 0
            · subst hy0; simp [wayF]
            · simp only [wayF, if_neg (show ¬ y ≤ 0 by omega), hlast, hnx, if_pos hk]
              rw [show ov + (x - left) + (y - 0) = ov + (x + y - left) by omega]
        · simp only [if_neg hk]
          cases hgo : goP p pos z with
          | none => exact ⟨fun _ => rfl, fun h => absurd rfl h⟩
          | some o =>
            obtain ⟨g1, g2⟩ := next_len hv hnx hk
            have := way_add hv pos k ov (x - left) y (lengthP p z.elem) (tr ++ [⟨z.elem, o⟩]) (by omega) hy (by omega) (by
              unfold restM at hr ⊢; rw [if_neg (by omega)]; split at hr <;> omega) (by simp)
            rw [show x - left + y = x + y - left by omega] at this
            exact this

/-! ### a move -/
/-- What a way ends in. -/
def finF (p : Plan) (len : Int) (e : Int × Int × Int × List Port) (vv : Int) : Body :=
  if len ≤ e.2.2.1 then ⟨3, [], 0, 0, 0⟩ else ⟨e.1, trimF p len (e.2.2.1 - e.2.1) e.2.2.2, e.2.1, e.2.2.1, vv⟩

theorem fin_eq {p : Plan} {n : Net} (hn : NetOf p n) (hv : Valid p) (len : Int) (e : Int × Int × Int × List Port) (vv : Int) (h2 : 0 ≤ e.2.1 ∧ e.2.1 ≤ 4000) (h3 : 0 ≤ e.2.2.1 ∧ e.2.2.1 ≤ 4060) (h1 : 1 ≤ e.2.2.2.length) (hl : e.2.2.2.length ≤ 6000) :
    (bif decide (len ≤ e.2.2.1) then some (⟨3, [], 0, 0, 0⟩ : Body) else loopR (g_body_Move_l2 n len (e.1, e.2.1, e.2.2.1, vv, e.2.2.2)) e.2.2.2) = some (finF p len e vv) := by
  unfold finF
  by_cases h : len ≤ e.2.2.1
  · simp only [decide_eq_true h, cond_true, if_pos h]
  · simp only [decide_eq_false h, cond_false, if_neg h]
    exact trim_loop hn hv len (e.1, e.2.1, e.2.2.1, vv, e.2.2.2) h2 h3 e.2.2.2 h1 hl

theorem held_id {v : Int} (h : 0 ≤ v ∧ v ≤ 60) : heldF v 0 60 = v := by
  unfold heldF
  repeat' split
  all_goals omega

theorem Move_run {p : Plan} {n : Net} (hn : NetOf p n) (hv : Valid p) (pos : List Int) (len : Int) {b : Body} (m2 : b.mode = 2) (ho : 0 ≤ b.over ∧ b.over ≤ 4000) (hl : 0 ≤ b.left ∧ b.left ≤ 4000) (h1 : 1 ≤ b.trail.length) (h2 : b.trail.length ≤ 5200) {v : Int} (hV : 0 ≤ v ∧ v ≤ 60) :
    ∃ vv, g_body_Move n pos len b v = some (finF p len (wayF p pos b.over 70 v b.left b.trail) vv) := by
  obtain ⟨vv, hw⟩ := way_loop hn hv pos b v ho 70 v b.left b.trail hV hl h1 (by omega) (by unfold restM; split <;> omega)
  obtain ⟨w1, w2, w3, a, w4, w5, w6⟩ := way_ok hv pos b.over 70 v b.left b.trail hV.1 hl
  refine ⟨vv, ?_⟩
  have h0 : ((b.trail.length : Int) == 0) = false := by rw [beq_eq_false_iff_ne]; omega
  have hf := fin_eq hn hv len (wayF p pos b.over 70 v b.left b.trail) vv w2 (by omega) (by rw [w4]; simp; omega) (by rw [w4]; simp; omega)
  unfold g_body_Move
  simp only [Clone_ports b.trail (by omega), Option.bind_some, hold60, held_id hV, cbne, cbeq, m2, show ¬ (2 : Int) = 1 by decide, if_true, if_false, h0, cond_false, hw]
  exact hf

theorem Move_still {n : Net} (pos : List Int) (len : Int) {b : Body} (m1 : b.mode ≠ 1) (m2 : b.mode ≠ 2) (h2 : b.trail.length ≤ 6000) (v : Int) : g_body_Move n pos len b v = some b := by
  unfold g_body_Move
  simp only [Clone_ports b.trail (by omega), Option.bind_some, cbne, if_neg m1, if_neg m2, cond_true]

theorem Move_wait {p : Plan} {n : Net} (hn : NetOf p n) (hv : Valid p) (pos : List Int) {len : Int} {b : Body} (hb : BodyOK p len b) (m1 : b.mode = 1) {h : Port} (ht : b.trail = [h]) {y : Port} (hnx : nextP p h = some y) (hyk : kindP p y.elem ≠ 4) {v : Int} (hV : 0 ≤ v ∧ v ≤ 60) :
    (g_body_Move n pos len b v = some b ∧ (v = 0 ∨ goP p pos y = none)) ∨ (0 < v ∧ ∃ o vv, goP p pos y = some o ∧ g_body_Move n pos len b v = some (finF p len (wayF p pos 0 70 v (lengthP p y.elem) [h, ⟨y.elem, o⟩]) vv)) := by
  obtain ⟨s1, s2, s3⟩ := hb.still (by omega)
  have h0 : ((b.trail.length : Int) == 0) = false := by rw [ht]; rfl
  obtain ⟨g1, g2⟩ := next_len hv hnx hyk
  by_cases hv0 : v = 0
  · left
    refine ⟨?_, .inl hv0⟩
    obtain ⟨c, ⟨hc, -⟩, -, hc', -⟩ := Move_eq hn hv hb (by rw [ht]; simp) pos v
    rcases hc' (by omega) with rfl | ⟨_, hq, _⟩
    · exact hc
    · rw [held_id hV] at hq; exact absurd hv0 hq
  · cases hgo : goP p pos y with
    | none =>
      left
      obtain ⟨c, ⟨hc, -⟩, -, hc', hc2⟩ := Move_eq hn hv hb (by rw [ht]; simp) pos v
      have hm := (hc2 m1 h y ht hnx).2 (.inr hgo)
      rcases hc' (by omega) with rfl | ⟨_, _, hq⟩
      · exact ⟨hc, .inr rfl⟩
      · exact absurd hm hq
    | some o =>
      right
      refine ⟨by omega, o, ?_⟩
      have hvb : (v == 0) = false := beq_eq_false_iff_ne.2 hv0
      have hd : decide (0 < v) = true := by simp; omega
      have hst := step_held (m := v) (l := 0) (by omega) (by omega)
      have hml : ¬ v ≤ 0 := by omega
      have e2 : wi64 (v - 0) = v := by rw [wi64_id] <;> omega
      have hx : idx [h] (wi64 ((([h] : List Port).length : Int) - 1)) = some h := rfl
      have hg : throughP p y.elem y.fin ((idx pos y.elem).getD 0) = goP p pos y := rfl
      have st1 : g_body_Move_l1 n pos b v (v, 1, 0, [h]) = some (.inl (v, 2, lengthP p y.elem, [h, ⟨y.elem, o⟩])) := by
        simp only [g_body_Move_l1, hd, cond_true, hst, if_neg hml, show wi64 (0 - 0) = 0 by decide, e2, hvb, cond_false, hx, Option.bind_some, net_Next hn, hnx, Option.isSome_some, Option.getD_some, Bool.not_true, net_Kind hn, cbeq, if_neg hyk, prog_pos (hv.join.next hnx), net_Through hn, hg, hgo, show ¬ (0 : Int) > 0 by omega, if_false]
        rw [appI_ok (by simp)]
        simp only [Option.bind_some, net_Length hn]; rfl
      obtain ⟨vv, hw⟩ := way_loop hn hv pos b v hb.over 70 v (lengthP p y.elem) [h, ⟨y.elem, o⟩] hV (by omega) (by simp) (by simp) (by unfold restM; split <;> omega)
      obtain ⟨w1, w2, w3, a, w4, w5, w6⟩ := way_ok hv pos b.over 70 v (lengthP p y.elem) [h, ⟨y.elem, o⟩] hV.1 (by omega)
      have hf := fin_eq hn hv len (wayF p pos b.over 70 v (lengthP p y.elem) [h, ⟨y.elem, o⟩]) vv w2 (by omega) (by rw [w4]; simp) (by rw [w4]; simp; omega)
      refine ⟨vv, rfl, ?_⟩
      rw [s2] at hf hw
      unfold g_body_Move
      have hl0 : ¬ ((([h] : List Port).length : Int) = 0) := by simp
      simp only [ht, Clone_ports [h] (by simp), Option.bind_some, hold60, held_id hV, cbne, cbeq, m1, if_true, if_neg hl0, h0, cond_false, hvb, if_neg hv0, s1, loopR_inl st1, hw]
      exact hf

/-- Two moves of a body on its way. -/
theorem fin_two {p : Plan} {n : Net} (hn : NetOf p n) (hv : Valid p) (pos : List Int) {len ov left : Int} {tr : List Port} (hlen : 1 ≤ len ∧ len ≤ 4000) (ho : 0 ≤ ov ∧ ov < len) (hl : 0 ≤ left ∧ left ≤ 4000) (h1 : tr ≠ []) (h2 : tr.length ≤ 5000) {x y : Int} (hx : 0 ≤ x) (hy : 0 ≤ y) (hxy : x + y ≤ 60) (v1 v2 : Int) :
    ∃ r, g_body_Move n pos len (finF p len (wayF p pos ov 70 x left tr) v1) y = some r ∧ ∃ d, d = finF p len (wayF p pos ov 70 (x + y) left tr) v2 ∧ (⟨r.mode, r.trail, r.left, r.over, 0⟩ : Body) = ⟨d.mode, d.trail, d.left, d.over, 0⟩ ∧ r.trail.length ≤ 6000 := by
  have hr : restM (x + y) left ≤ (70 : Nat) := by unfold restM; split <;> omega
  obtain ⟨ad1, ad2⟩ := way_add hv pos 70 ov x y left tr hx hy hl.1 hr h1
  obtain ⟨w1, w2, w3, a, w4, w5, w6⟩ := way_ok hv pos ov 70 x left tr hx hl
  obtain ⟨z1, z2, z3, a2, z4, z5, z6⟩ := way_ok hv pos ov 70 (x + y) left tr (by omega) hl
  generalize he1 : wayF p pos ov 70 x left tr = e1 at *
  generalize he2 : wayF p pos ov 70 (x + y) left tr = e2 at *
  obtain ⟨pre, t1, t2⟩ := trim_suffix p len (e1.2.2.1 - e1.2.1) e1.2.2.2
  have hne : e1.2.2.2 ≠ [] := by rw [w4]; simp [h1]
  have hl1 : e1.2.2.2.length ≤ 5070 := by rw [w4]; simp; omega
  have htl : (trimF p len (e1.2.2.1 - e1.2.1) e1.2.2.2).length ≤ 5070 := by
    have := congrArg List.length t1
    simp at this; omega
  have hpos := List.length_pos_iff.2 (t2 hne)
  by_cases hm4 : e1.1 = 4
  · have := ad1 hm4
    subst this
    by_cases hh : len ≤ e2.2.2.1
    · refine ⟨finF p len e2 v1, Move_still pos len (by simp [finF, hh]) (by simp [finF, hh]) (by simp [finF, hh]) y, _, rfl, by simp [finF, hh], by simp [finF, hh]⟩
    · refine ⟨finF p len e2 v1, Move_still pos len (by simp [finF, hh, hm4]) (by simp [finF, hh, hm4]) (by simp only [finF, if_neg hh]; omega) y, _, rfl, by simp [finF, hh], by simp only [finF, if_neg hh]; omega⟩
  · have hm2 : e1.1 = 2 := by rcases w1 with h | h; exact h; exact absurd h hm4
    have had := ad2 hm4 70 (by unfold restM; split <;> omega)
    by_cases hh : len ≤ e1.2.2.1
    · obtain ⟨-, -, q3, -⟩ := way_ok hv pos e1.2.2.1 70 y e1.2.1 e1.2.2.2 hy w2
      rw [had] at q3
      have hh2 : len ≤ e2.2.2.1 := by omega
      exact ⟨finF p len e1 v1, Move_still pos len (by simp [finF, hh]) (by simp [finF, hh]) (by simp [finF, hh]) y, _, rfl, by simp [finF, hh, hh2], by simp [finF, hh]⟩
    · have hr1 : finF p len e1 v1 = ⟨2, trimF p len (e1.2.2.1 - e1.2.1) e1.2.2.2, e1.2.1, e1.2.2.1, v1⟩ := by simp only [finF, if_neg hh, hm2]
      rw [hr1]
      obtain ⟨vv, hmv⟩ := Move_run hn hv pos len (b := ⟨2, trimF p len (e1.2.2.1 - e1.2.1) e1.2.2.2, e1.2.1, e1.2.2.1, v1⟩) rfl (by simp only; omega) w2 (by simp only; omega) (by simp only; omega) (v := y) (by omega)
      simp only at hmv
      obtain ⟨u1, u2, u3, a3, u4, u5, u6⟩ := way_ok hv pos e1.2.2.1 70 y e1.2.1 (trimF p len (e1.2.2.1 - e1.2.1) e1.2.2.2) hy w2
      have hpre := way_pre p pos e1.2.2.1 pre 70 y e1.2.1 (trimF p len (e1.2.2.1 - e1.2.1) e1.2.2.2) (t2 hne)
      rw [← t1, had] at hpre
      generalize he3 : wayF p pos e1.2.2.1 70 y e1.2.1 (trimF p len (e1.2.2.1 - e1.2.1) e1.2.2.2) = e3 at *
      have f1 : e2.1 = e3.1 := by rw [hpre]
      have f2 : e2.2.1 = e3.2.1 := by rw [hpre]
      have f3 : e2.2.2.1 = e3.2.2.1 := by rw [hpre]
      have f4 : e2.2.2.2 = e1.2.2.2 ++ a3 := by
        have : e2.2.2.2 = pre ++ e3.2.2.2 := by rw [hpre]
        rw [this, u4, ← List.append_assoc, ← t1]
      refine ⟨_, hmv, _, rfl, ?_, ?_⟩
      · by_cases hq : len ≤ e3.2.2.1
        · simp only [finF, f3, if_pos hq]
        · simp only [finF, f3, if_neg hq, f1, f2, f4, u4]
          rw [trim_trim p len _ _ a3 e1.2.2.2 hne (by omega)]
      · by_cases hq : len ≤ e3.2.2.1
        · simp [finF, hq]
        · simp only [finF, if_neg hq]
          obtain ⟨pre2, t3, -⟩ := trim_suffix p len (e3.2.2.1 - e3.2.1) e3.2.2.2
          have := congrArg List.length t3
          simp at this
          have h5 : e3.2.2.2.length ≤ 5200 := by rw [u4]; simp; omega
          omega

theorem BodyTwo_true (p : Plan) (pos : List Int) (len : Int) (b : Body) (x y : Int) (hx8 : (Lit.int .u8 x).wf = true) (hy8 : (Lit.int .u8 y).wf = true) : g_L23_BodyTwo p pos len b x y = some true := by
  have hx : 0 ≤ x ∧ x ≤ 255 := by simpa [Lit.wf, IntKind.min, IntKind.max, IntKind.signed, IntKind.bits] using hx8
  have hy : 0 ≤ y ∧ y ≤ 255 := by simpa [Lit.wf, IntKind.min, IntKind.max, IntKind.signed, IntKind.bits] using hy8
  have e1 : wi64 x = x := by rw [wi64_id] <;> omega
  have e2 : wi64 y = y := by rw [wi64_id] <;> omega
  have e3 : wi64 (x + y) = x + y := by rw [wi64_id] <;> omega
  unfold g_L23_BodyTwo
  simp only [known23, Option.bind_some, Bool.not_true, cond_false, e1, e2, e3]
  by_cases a0 : 60 < x + y
  · simp only [a0, decide_true, cond_true, Option.bind_some]
  by_cases a1 : (100 : Int) < (pos.length : Int)
  · simp only [a0, a1, decide_true, decide_false, cond_false, cond_true, Option.bind_some]
  by_cases a2 : (5000 : Int) < (b.trail.length : Int)
  · simp only [a0, a1, a2, decide_true, decide_false, cond_false, cond_true, Option.bind_some]
  obtain ⟨f, hf, hfine⟩ := fine_total p
  simp only [a0, a1, a2, decide_false, cond_false, hf, Option.bind_some]
  cases f with
  | false => rfl
  | true =>
    have hv := hfine rfl
    obtain ⟨r, hr, hr'⟩ := MayBody_total p hv len b (by omega)
    simp only [Bool.not_true, cond_false, hr, Option.bind_some]
    cases r with
    | false => rfl
    | true =>
      have hb := hr' rfl
      have hlen := hb.len
      obtain ⟨n, h1, hno⟩ := case_total p pos len b (by omega) (by omega) hf hr
      simp only [Bool.not_true, cond_false, h1, Option.bind_some, optM]
      -- what is left to show
      have done : ∀ r1 c d : Body, g_body_Move n pos len b x = some r1 → g_body_Move n pos len r1 y = some c → g_body_Move n pos len b (x + y) = some d → (⟨c.mode, c.trail, c.left, c.over, 0⟩ : Body) = ⟨d.mode, d.trail, d.left, d.over, 0⟩ → c.trail.length ≤ 6000 →
          ((g_body_Move n pos len b x).bind fun y81 => (g_body_Move n pos len y81 y).bind fun y83 => (g_body_Move n pos len b (x + y)).bind fun y87 => (g_R24_SameBody (⟨y83.mode, y83.trail, y83.left, y83.over, 0⟩ : Body) (⟨y87.mode, y87.trail, y87.left, y87.over, 0⟩ : Body)).bind fun y91 => some y91) = some true := by
        intro r1 c d q1 q2 q3 q4 q5
        simp only [q1, q2, q3, Option.bind_some, ← q4, SameBody_refl (⟨c.mode, c.trail, c.left, c.over, 0⟩ : Body) (by simp only; omega)]
      by_cases m2 : b.mode = 2
      · have hh := hb.heads (.inl m2)
        have hov : b.over < len := hb.ov (.inl m2)
        obtain ⟨v1, k1⟩ := Move_run hno hv pos len m2 hb.over hb.left hh.ne (by omega) (v := x) (by omega)
        obtain ⟨v2, k2⟩ := Move_run hno hv pos len m2 hb.over hb.left hh.ne (by omega) (v := x + y) (by omega)
        obtain ⟨c, k3, d, rfl, k4, k5⟩ := fin_two hno hv pos (x := x) (y := y) (ov := b.over) (left := b.left) (tr := b.trail) hlen ⟨hb.over.1, hov⟩ hb.left (fun h => by have := hh.ne; rw [h] at this; simp at this) (by omega) hx.1 hy.1 (by omega) v1 v2
        exact done _ c _ k1 k3 k2 k4 k5
      · by_cases m1 : b.mode = 1
        · obtain ⟨h, ht, hf0, hk4⟩ := hb.waits m1
          have hhp : hasP p h = true := by simp [hasP, hf0, hk4, endsF]
          obtain ⟨el, hel, hke⟩ := hasP_idx hhp
          obtain ⟨q1, q2⟩ := idx_at hel
          obtain ⟨z, hz, hzk⟩ := hv.join.gate _ el q1 (by rw [← hke]; exact hk4)
          have hnx : nextP p h = some z := by rw [← hz, ← q2, ← hf0]
          obtain ⟨g1, g2⟩ := next_len hv hnx hzk
          have same : b.trail.length ≤ 6000 := by omega
          rcases Move_wait hno hv pos hb m1 ht hnx hzk (v := x) (by omega) with ⟨k1, c1⟩ | ⟨c1, o, vv, k0, k1⟩
          · by_cases hx0 : x = 0
            · rcases Move_wait hno hv pos hb m1 ht hnx hzk (v := y) (by omega) with ⟨k2, _⟩ | ⟨_, o, vv, k0, k2⟩
              · exact done b b b k1 k2 (by rw [hx0, Int.zero_add]; exact k2) rfl same
              · refine done b _ _ k1 k2 (by rw [hx0, Int.zero_add]; exact k2) rfl ?_
                obtain ⟨w1, w2, w3, a, w4, w5, w6⟩ := way_ok hv pos 0 70 y (lengthP p z.elem) [h, ⟨z.elem, o⟩] hy.1 (by omega)
                unfold finF
                split
                · simp
                · obtain ⟨pre2, t3, -⟩ := trim_suffix p len ((wayF p pos 0 70 y (lengthP p z.elem) [h, ⟨z.elem, o⟩]).2.2.1 - (wayF p pos 0 70 y (lengthP p z.elem) [h, ⟨z.elem, o⟩]).2.1) (wayF p pos 0 70 y (lengthP p z.elem) [h, ⟨z.elem, o⟩]).2.2.2
                  have := congrArg List.length t3
                  rw [List.length_append] at this
                  have h5 := congrArg List.length w4
                  simp at h5
                  simp only
                  omega
            · have hgo : goP p pos z = none := by rcases c1 with h | h; exact absurd h hx0; exact h
              have stay : ∀ v, 0 ≤ v ∧ v ≤ 60 → g_body_Move n pos len b v = some b := fun v hvv => by
                rcases Move_wait hno hv pos hb m1 ht hnx hzk hvv with ⟨k2, _⟩ | ⟨_, o, vv, k0, k2⟩
                · exact k2
                · rw [hgo] at k0; cases k0
              exact done b b b k1 (stay y (by omega)) (stay (x + y) (by omega)) rfl same
          · rcases Move_wait hno hv pos hb m1 ht hnx hzk (v := x + y) (by omega) with ⟨k2, h | h⟩ | ⟨_, o', v2, k0', k2⟩
            · omega
            · rw [h] at k0; cases k0
            · rw [k0] at k0'; cases k0'
              obtain ⟨c, k3, d, rfl, k4, k5⟩ := fin_two hno hv pos (x := x) (y := y) (ov := 0) (left := lengthP p z.elem) (tr := [h, ⟨z.elem, o⟩]) hlen ⟨by omega, by omega⟩ (by omega) (by simp) (by simp) hx.1 hy.1 (by omega) vv v2
              exact done _ c _ k1 k3 k2 k4 k5
        · have stay : ∀ v, g_body_Move n pos len b v = some b := fun v => Move_still pos len m1 m2 (by omega) v
          exact done b b b (stay x) (stay y) (stay _) rfl (by omega)

end Go.E
