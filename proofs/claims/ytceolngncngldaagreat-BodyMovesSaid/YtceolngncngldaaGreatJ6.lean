/- Plain Lean: a running body's way: the two loops go in step. No condition. -/
import Derived.KernelRfl
import Derived.Test.YtceolngncngldaaGreatJ5
set_option linter.unusedVariables false
set_option linter.unusedSimpArgs false
namespace Go.E
open Go

/-- What a way ends in: mode, left, over, speed, headings. -/
structure EndOK (tr : List Port) (e : Int × Int × Int × Int × List Port) : Prop where
  mode : e.1 = 2 ∨ e.1 = 4
  left : 0 ≤ e.2.1 ∧ e.2.1 ≤ 4000
  over : 0 ≤ e.2.2.1 ∧ e.2.2.1 ≤ 4060
  ne : 1 ≤ e.2.2.2.2.length
  le : e.2.2.2.2.length ≤ 5100

theorem R6_Step_eq {p : Plan} (hv : Valid p) (pos : List Int) (h : Port) : g_R6_Step p pos h = some (match nextP p h with
    | none => (⟨0, 0⟩, 3)
    | some y => if kindP p y.elem = 4 then (⟨0, 0⟩, 2) else match goP p pos y with
      | none => (⟨0, 0⟩, 4)
      | some o => (⟨y.elem, o⟩, 0)) := by
  have := hv.few.joins
  unfold g_R6_Step
  simp only [g_R6_Next_eq p (show p.joins.length < 1000000 by omega), Option.bind_some, g_R6_kind_eq, R6_Lies_eq, R6_Through_eq, go_lies, cbeq]
  cases hn : nextP p h with
  | none => rfl
  | some y =>
    simp only [Option.isSome_some, Bool.not_true, cond_false, Option.getD_some]
    by_cases k : kindP p y.elem = 4
    · simp only [if_pos k]
    · simp only [if_neg k, go_lies]
      cases goP p pos y <;> rfl

theorem R24_ahead_eq {p : Plan} (hv : Valid p) (pos : List Int) (h : Port) : g_R24_ahead p pos h = some (match nextP p h with
    | none => (⟨0, 0⟩, 3)
    | some y => if kindP p y.elem = 4 then (⟨0, 0⟩, 2) else match goP p pos y with
      | none => (⟨0, 0⟩, 4)
      | some o => (⟨y.elem, o⟩, 0)) := by
  unfold g_R24_ahead
  rw [R6_Step_eq hv]; rfl

theorem runs_step {p : Plan} {n : Net} (hn : NetOf p n) (hv : Valid p) (pos : List Int) (b : Body) (v : Int) (hb : 0 ≤ b.over ∧ b.over ≤ 4000) {m left : Int} {tr : List Port} (hm : 0 ≤ m ∧ m ≤ 60) (hl : 0 ≤ left ∧ left ≤ 4000) (h1 : 1 ≤ tr.length) (h2 : tr.length ≤ 5080)
    (hw : b.mode ≠ 1 ∨ tr.length ≠ 1) :
    (∃ e, g_body_Move_l1 n pos b v (m, 2, left, tr) = some (.inr e) ∧ g_R24_Move_l1 p pos b (heldF v 0 60) (m, left, tr) = some (.inr (.inl e)) ∧ EndOK tr e) ∨
    (0 < m ∧ ∃ left' h, g_body_Move_l1 n pos b v (m, 2, left, tr) = some (.inl (m - left, 2, left', tr ++ [h])) ∧ g_R24_Move_l1 p pos b (heldF v 0 60) (m, left, tr) = some (.inl (m - left, left', tr ++ [h])) ∧ left < m ∧ 1 ≤ left' ∧ left' ≤ 4000) := by
  by_cases hm0 : 0 < m
  · have hd : decide (0 < m) = true := by simpa using hm0
    have hst := step_held hm0 hl.1
    simp only [g_body_Move_l1, g_R24_Move_l1, hd, cond_true, hst, hold60]
    by_cases hml : m ≤ left
    · left
      have e1 : wi64 (left - m) = left - m := by rw [wi64_id] <;> omega
      have e2 : (wi64 (m - m) == 0) = true := by rw [show m - m = 0 by omega]; rfl
      have hmd : decide (m ≤ left) = true := by simpa using hml
      simp only [if_pos hml, e2, e1, hmd, cond_true]
      refine ⟨_, rfl, ?_, ?_⟩
      · rw [if_neg (by omega)]
      · rw [if_neg (by omega)]
        exact ⟨.inl rfl, by simp only; omega, by simp only; omega, h1, by simp only; omega⟩
    · have e1 : wi64 (left - left) = 0 := by rw [show left - left = 0 by omega]; rfl
      have e2 : wi64 (m - left) = m - left := by rw [wi64_id] <;> omega
      have e3 : (m - left == 0) = false := by rw [beq_eq_false_iff_ne]; omega
      have hmd : decide (m ≤ left) = false := by simpa using hml
      obtain ⟨x, hx, hx'⟩ := last_idx (l := tr) h1 (by omega)
      have e4 : wi64 (b.over + (m - left)) = b.over + (m - left) := by rw [wi64_id] <;> omega
      simp only [if_neg hml, e1, e2, e3, hmd, cond_false, hx, Option.bind_some, net_Next hn, R24_ahead_eq hv, net_Kind hn, e4, show ¬ (0 : Int) > 0 by omega, if_false, wi64_id (n := (0 : Int)) (by omega) (by omega)]
      cases hnx : nextP p x with
      | none =>
        left
        exact ⟨_, rfl, rfl, .inl rfl, by simp, by simp only; omega, h1, by simp only; omega⟩
      | some y =>
        simp only [Option.isSome_some, Bool.not_true, cond_false, Option.getD_some, cbeq]
        by_cases k4 : kindP p y.elem = 4
        · left
          simp only [if_pos k4]
          exact ⟨_, rfl, rfl, .inl rfl, by simp, by simp only; omega, h1, by simp only; omega⟩
        · simp only [if_neg k4, prog_pos (hv.join.next hnx), Option.bind_some, net_Through hn]
          have hg : throughP p y.elem y.fin ((idx pos y.elem).getD 0) = goP p pos y := rfl
          rw [hg]
          cases hgo : goP p pos y with
          | none =>
            left
            refine ⟨(4, 0, b.over, 0, tr), rfl, ?_, .inr rfl, by simp, by simp only; omega, h1, by simp only; omega⟩
            simp only [show ¬ ((4 : Int) = 2) by decide, if_false, if_true]
            have hcond : ((if b.mode = 1 then if (tr.length : Int) = 1 then (idx tr 0).bind fun y595 => (idx b.trail 0).bind fun y597 => some (y595 == y597) else some false else some false : Option Bool)) = some false := by
              rcases hw with hw | hw
              · simp [hw]
              · have : ¬ ((tr.length : Int) = 1) := by omega
                simp [this]
            rw [hcond]; rfl
          | some o =>
            right
            obtain ⟨e, he, hke⟩ := hasP_idx (hv.join.next hnx)
            have hlen := lengthP_le hv.args y.elem
            have k0 : kindP p y.elem ≠ 0 := by
              obtain ⟨_, _, f3⟩ := hasP_fin (hv.join.next hnx)
              intro k; rw [k] at f3; simp [endsF] at f3
              have := (hasP_fin (hv.join.next hnx)).1
              omega
            refine ⟨hm0, lengthP p y.elem, ⟨y.elem, o⟩, ?_, ?_, by omega, hlen.2.2 k4 k0, hlen.2.1⟩
            · simp only [Option.isSome_some, Bool.not_true, cond_false, Option.getD_some]
              rw [appI_ok (by simp; omega)]
              simp only [Option.bind_some, net_Length hn]
            · simp only [show ¬ ((0 : Int) = 2) by decide, show ¬ ((0 : Int) = 4) by decide, if_false, Option.bind_some, cond_false]
              have : ((0 : Int) != 0) = false := rfl
              simp only [this, cond_false]
              rw [appI_ok (by simp; omega)]
              simp only [Option.bind_some, g_R6_Length_eq]
  · left
    have hd : decide (0 < m) = false := by simpa using hm0
    simp only [g_body_Move_l1, g_R24_Move_l1, hd, cond_false, hold60]
    exact ⟨_, rfl, rfl, .inl rfl, by simp only; omega, by simp only; omega, h1, by simp only; omega⟩

end Go.E
/- Plain Lean: a running body's whole way, and its tail: in step. No condition. -/
namespace Go.E
open Go

theorem runs_eq {p : Plan} {n : Net} (hn : NetOf p n) (hv : Valid p) (pos : List Int) (b : Body) (v : Int) (hb : 0 ≤ b.over ∧ b.over ≤ 4000) {m left : Int} {tr : List Port} (hm : 0 ≤ m ∧ m ≤ 60) (hl : 0 ≤ left ∧ left ≤ 4000) (h1 : 1 ≤ tr.length) (h2 : tr.length ≤ 5010)
    (hw : b.mode ≠ 1 ∨ tr.length ≠ 1) :
    ∃ e, loopR (g_body_Move_l1 n pos b v) (m, 2, left, tr) = some e ∧ loopR (g_R24_Move_l1 p pos b (heldF v 0 60)) (m, left, tr) = some (.inl e) ∧ EndOK tr e := by
  obtain ⟨e, r, he, hr, rfl, ho⟩ := loop_two (f := g_body_Move_l1 n pos b v) (g := g_R24_Move_l1 p pos b (heldF v 0 60)) (Post := fun a r => r = .inl a ∧ EndOK tr a)
    (fun k s t => ∃ m' left' tr', s = (m', 2, left', tr') ∧ t = (m', left', tr') ∧ 0 ≤ m' ∧ m' ≤ 60 ∧ 0 ≤ left' ∧ left' ≤ 4000 ∧ tr'.length = tr.length + k ∧ k ≤ 62 ∧ (1 ≤ k → m' ≤ 61 - (k : Int) ∧ 1 ≤ left')) 63
    (fun k s t => by
      rintro ⟨m', left', tr', rfl, rfl, a1, a2, a3, a4, a5, a6, a7⟩
      rcases runs_step hn hv pos b v hb (m := m') (left := left') (tr := tr') ⟨a1, a2⟩ ⟨a3, a4⟩ (by omega) (by omega) (by rcases hw with h | h; exact .inl h; exact .inr (by omega)) with ⟨e, e1, e2, e3⟩ | ⟨c1, l2, h, e1, e2, c2, c3, c4⟩
      · exact .inl ⟨e, _, e1, e2, rfl, ⟨e3.mode, e3.left, e3.over, e3.ne, e3.le⟩⟩
      · refine .inr ⟨?_, _, _, e1, e2, m' - left', l2, tr' ++ [h], rfl, rfl, by omega, by omega, by omega, by omega, by simp; omega, ?_, fun _ => ⟨?_, c3⟩⟩
        · by_cases hk : 1 ≤ k
          · have := a7 hk; omega
          · omega
        · by_cases hk : 1 ≤ k
          · have := a7 hk; omega
          · omega
        · by_cases hk : 1 ≤ k
          · have := a7 hk; omega
          · omega)
    (s := (m, 2, left, tr)) (t := (m, left, tr)) ⟨m, left, tr, rfl, rfl, hm.1, hm.2, hl.1, hl.2, by omega, by omega, fun h => by omega⟩
  exact ⟨e, he, hr, ho⟩

/-! ### the tail -/
/-- How much lies in front of the first element. -/
def roomF (p : Plan) : Int → List Port → Int
  | s, [] => s
  | s, h :: r => roomF p (s + lengthP p h.elem) r

theorem room_loop {p : Plan} (ha : ArgsP p) {β : Type} (l : List Port) (hl : l.length ≤ 6000) (s0 : Int) (hs : -10000 ≤ s0 ∧ s0 ≤ 10000) {step : Int × Int → Option ((Int × Int) ⊕ β)} (fin : Int → Option ((Int × Int) ⊕ β))
    (h1 : ∀ (i : Nat) h s, l[i]? = some h → step (s, (i : Int)) = some (.inl (wi64 (s + lengthP p h.elem), wi64 ((i : Int) + 1)))) (h2 : ∀ s, step (s, (l.length : Int)) = fin s) (hf : ∀ s, ∃ b, fin s = some (.inr b)) :
    ∀ b, fin (roomF p s0 l) = some (.inr b) → loopR step (s0, 0) = some b := by
  intro b hb
  have key : ∀ (r : List Port) (i : Nat) (s : Int), l.drop i = r → i ≤ l.length → -10000 ≤ s → s ≤ 10000 + 4000 * (i : Int) → roomF p s r = roomF p s0 l → loopR step (s, (i : Int)) = some b := by
    intro r
    induction r with
    | nil =>
      intro i s hd hi _ _ hr
      have : i = l.length := by have := congrArg List.length hd; simp at this; omega
      subst this
      have e : fin s = some (.inr b) := by rw [← hb, ← hr]; rfl
      exact loopR_inr (by rw [h2, e])
    | cons a r ih =>
      intro i s hd hi hs1 hs2 hr
      have hlt : i < l.length := by have := congrArg List.length hd; simp at this; omega
      have hai : l[i]? = some a := by
        have : (l.drop i)[0]? = some a := by rw [hd]; rfl
        simpa using this
      have hrest : l.drop (i + 1) = r := by
        have : (l.drop i).drop 1 = r := by rw [hd]; rfl
        rwa [List.drop_drop] at this
      obtain ⟨l1, l2, _⟩ := lengthP_le ha a.elem
      rw [loopR_inl (h1 i a s hai), wi64_succ (show i < 1000000000 by omega), wi64_id (n := s + lengthP p a.elem) (by omega) (by omega)]
      exact ih (i + 1) _ hrest (by omega) (by omega) (by omega) hr
  exact key l 0 s0 rfl (Nat.zero_le _) hs.1 (by simpa using hs.2) rfl

end Go.E
/- Plain Lean: Move is one. No condition. -/
namespace Go.E
open Go

theorem slI_tail {l : List Port} (h : 1 ≤ l.length) : slI l 1 (l.length : Int) = some (l.drop 1) := by
  unfold slI
  rw [if_pos (by omega)]
  simp

theorem delI_first {l : List Port} (h : 1 ≤ l.length) : delI l 0 1 = some (l.drop 1) := by
  unfold delI
  rw [if_pos (by omega)]
  simp

theorem has_eq {p : Plan} {n : Net} (hn : NetOf p n) (hv : Valid p) (b : Body) (h1 : 1 ≤ b.trail.length) (hl : b.trail.length ≤ 6000) (h2 : 0 ≤ b.left ∧ b.left ≤ 4000) (h3 : 0 ≤ b.over ∧ b.over ≤ 4060) :
    g_body_has n b = some (roomF p (b.over - b.left) (b.trail.drop 1)) := by
  unfold g_body_has
  rw [slI_tail h1]
  simp only [Option.bind_some]
  rw [wi64_id (n := b.over - b.left) (by omega) (by omega)]
  refine room_loop hv.args (b.trail.drop 1) (by simp; omega) _ (by omega) (fun s => some (.inr s)) (fun i h s hi => ?_) (fun s => ?_) (fun s => ⟨s, rfl⟩) _ rfl
  · simp only [g_body_has_l1, dlt hi, cond_true, idx_nat, hi, Option.bind_some, net_Length hn]
  · simp only [g_body_has_l1, dge, cond_false]

theorem tail_eq {p : Plan} {n : Net} (hn : NetOf p n) (hv : Valid p) (len : Int) (e : Int × Int × Int × Int × List Port) (h2 : 0 ≤ e.2.1 ∧ e.2.1 ≤ 4000) (h3 : 0 ≤ e.2.2.1 ∧ e.2.2.1 ≤ 4060) (tr : List Port) (h1 : 1 ≤ tr.length) (hl : tr.length ≤ 5200) :
    ∃ tr', loopR (g_body_Move_l2 n len e) tr = some ⟨e.1, tr', e.2.1, e.2.2.1, e.2.2.2.1⟩ ∧ loopR (g_R24_shorter_l1 p len ⟨e.1, e.2.2.2.2, e.2.1, e.2.2.1, e.2.2.2.1⟩) tr = some tr' ∧ tr'.length ≤ 5200 ∧ 1 ≤ tr'.length ∧ tr'.length ≤ tr.length ∧ tr'.getLast? = tr.getLast? := by
  obtain ⟨a, b, ha, hb, rfl, hle, q1, q2, q3⟩ := loop_two (f := g_body_Move_l2 n len e) (g := g_R24_shorter_l1 p len ⟨e.1, e.2.2.2.2, e.2.1, e.2.2.1, e.2.2.2.1⟩) (Post := fun a b => a = ⟨e.1, b, e.2.1, e.2.2.1, e.2.2.2.1⟩ ∧ b.length ≤ 5200 ∧ 1 ≤ b.length ∧ b.length ≤ tr.length ∧ b.getLast? = tr.getLast?)
    (fun k s t => s = t ∧ 1 ≤ s.length ∧ s.length + k ≤ tr.length ∧ s.getLast? = tr.getLast?) 5200
    (fun k s t => by
      rintro ⟨rfl, c1, c2, c3⟩
      by_cases hd : (1 : Int) < (s.length : Int)
      · have hdd : decide ((1 : Int) < (s.length : Int)) = true := by simpa using hd
        have hh := has_eq hn hv ⟨e.1, s, e.2.1, e.2.2.1, e.2.2.2.1⟩ c1 (by simp only; omega) h2 h3
        simp only at hh
        simp only [g_body_Move_l2, g_R24_shorter_l1, hdd, cond_true, hh, Option.bind_some, slI_tail c1]
        rw [wi64_id (n := e.2.2.1 - e.2.1) (by omega) (by omega)]
        have inner : ∀ r, ((bif decide (roomF p (e.2.2.1 - e.2.1) (s.drop 1) < len) then some (.inr s) else (slI s 1 (s.length : Int)).bind fun y756 => some (.inl y756)) : Option (List Port ⊕ List Port)) = some r →
            loopR (g_R24_shorter_l2 p len s (s.drop 1)) (e.2.2.1 - e.2.1, 0) = some r := by
          intro r hr
          refine room_loop hv.args (s.drop 1) (by simp; omega) _ (by omega) (fun x => ((bif decide (x < len) then some (.inr s) else (slI s 1 (s.length : Int)).bind fun y756 => some (.inl y756)) : Option (List Port ⊕ List Port)).map .inr) (fun i h x hi => ?_) (fun x => ?_) (fun x => ?_) _ ?_
          · simp only [g_R24_shorter_l2, dlt hi, cond_true, idx_nat, hi, Option.bind_some, g_R6_Length_eq]
          · simp only [g_R24_shorter_l2, dge, cond_false]
          · rw [slI_tail c1]
            cases decide (x < len)
            · exact ⟨_, rfl⟩
            · exact ⟨_, rfl⟩
          · rw [hr]; rfl
        by_cases hr : len ≤ roomF p (e.2.2.1 - e.2.1) (s.drop 1)
        · right
          have d1 : decide (len ≤ roomF p (e.2.2.1 - e.2.1) (s.drop 1)) = true := decide_eq_true hr
          have d2 : decide (roomF p (e.2.2.1 - e.2.1) (s.drop 1) < len) = false := decide_eq_false (by omega)
          refine ⟨by omega, s.drop 1, s.drop 1, ?_, inner _ ?_, rfl, by simp; omega, by simp; omega, by rw [List.getLast?_drop, if_neg (by omega)]; exact c3⟩
          · simp only [d1, cond_true, delI_first c1, Option.bind_some]
          · simp only [d2, cond_false, slI_tail c1, Option.bind_some]
        · left
          have d1 : decide (len ≤ roomF p (e.2.2.1 - e.2.1) (s.drop 1)) = false := decide_eq_false hr
          have d2 : decide (roomF p (e.2.2.1 - e.2.1) (s.drop 1) < len) = true := decide_eq_true (by omega)
          refine ⟨⟨e.1, s, e.2.1, e.2.2.1, e.2.2.2.1⟩, s, ?_, inner _ ?_, rfl, by omega, c1, by omega, c3⟩
          · simp only [d1, cond_false]
          · simp only [d2, cond_true]
      · have hdd : decide ((1 : Int) < (s.length : Int)) = false := by simpa using hd
        exact .inl ⟨⟨e.1, s, e.2.1, e.2.2.1, e.2.2.2.1⟩, s, by simp only [g_body_Move_l2, hdd, cond_false, Option.bind_some], by simp only [g_R24_shorter_l1, hdd, cond_false], rfl, by omega, c1, by omega, c3⟩)
    (s := tr) (t := tr) ⟨rfl, h1, by omega, rfl⟩
  exact ⟨b, ha, hb, hle, q1, q2, q3⟩

theorem Clone_ports (l : List Port) (h : l.length ≤ 1000000) : g_slices_Clone_apiPort l = some l := clone_eq l h

theorem Move_eq {p : Plan} {n : Net} (hn : NetOf p n) (hv : Valid p) {len : Int} {b : Body} (hb : BodyOK p len b) (hl : b.trail.length ≤ 5000) (pos : List Int) (v : Int) :
    ∃ r, (g_body_Move n pos len b v = some r ∧ g_R24_Move p pos len b v = some r) ∧ r.trail.length ≤ 5200 ∧ (b.mode ≠ 2 → r = b ∨ (b.mode = 1 ∧ heldF v 0 60 ≠ 0 ∧ r.mode ≠ 1)) ∧
      (b.mode = 1 → ∀ h y, b.trail = [h] → nextP p h = some y → (r.mode = 1 ↔ heldF v 0 60 = 0 ∨ goP p pos y = none)) := by
  have hV := heldF_le (x := v) (lo := 0) (hi := 60) (by omega)
  have hlen := hb.len
  unfold g_body_Move g_R24_Move
  simp only [Clone_ports b.trail (by omega), Option.bind_some, R24_hold_eq (show (0 : Int) ≤ 60 by omega), hold60, cbne, cbeq]
  -- what comes behind the way
  have rest : ∀ e : Int × Int × Int × Int × List Port, EndOK b.trail e ∨ (0 ≤ e.2.1 ∧ e.2.1 ≤ 4000 ∧ 0 ≤ e.2.2.1 ∧ e.2.2.1 ≤ 4060 ∧ 1 ≤ e.2.2.2.2.length ∧ e.2.2.2.2.length ≤ 5200) →
      ∃ r, (bif decide (len ≤ e.2.2.1) then some (⟨3, [], 0, 0, 0⟩ : Body) else loopR (g_body_Move_l2 n len e) e.2.2.2.2) = some r ∧ (r.trail.length ≤ 5200 ∧ (e.1 = 2 ∨ e.1 = 4 → r.mode ≠ 1)) ∧
        (bif decide (len ≤ e.2.2.1) then some (⟨3, [], 0, 0, 0⟩ : Body) else (g_R24_shorter p len ⟨e.1, e.2.2.2.2, e.2.1, e.2.2.1, e.2.2.2.1⟩).bind fun y => some y) = some r := by
    intro e he
    have he' : 0 ≤ e.2.1 ∧ e.2.1 ≤ 4000 ∧ 0 ≤ e.2.2.1 ∧ e.2.2.1 ≤ 4060 ∧ 1 ≤ e.2.2.2.2.length ∧ e.2.2.2.2.length ≤ 5200 := by
      rcases he with h | h
      · exact ⟨h.left.1, h.left.2, h.over.1, h.over.2, h.ne, by have := h.le; omega⟩
      · exact h
    obtain ⟨a1, a2, a3, a4, a5, a6⟩ := he'
    cases decide (len ≤ e.2.2.1) with
    | true => exact ⟨_, rfl, ⟨by simp, by simp⟩, rfl⟩
    | false =>
      obtain ⟨t, h1, h2, h3, -⟩ := tail_eq hn hv len e ⟨a1, a2⟩ ⟨a3, a4⟩ e.2.2.2.2 a5 a6
      refine ⟨_, h1, ⟨h3, fun h => by simp only; omega⟩, ?_⟩
      unfold g_R24_shorter
      simp only [cond_false, h2, Option.bind_some]
  by_cases m3 : b.mode = 3
  · refine ⟨b, ⟨?_, by simp [m3]⟩, by omega, fun _ => .inl rfl, fun h => by omega⟩
    simp only [m3]
    cases b; simp only at m3; subst m3; simp
  by_cases m4 : b.mode = 4
  · refine ⟨b, ⟨?_, by simp [m4]⟩, by omega, fun _ => .inl rfl, fun h => by omega⟩
    cases b; simp only at m4; subst m4; simp
  have hap : appI ([] : List Port) b.trail = some b.trail := by rw [appI_ok (by simp; omega)]; rfl
  by_cases m2 : b.mode = 2
  · have hh := hb.heads (.inl m2)
    have hne := hh.ne
    have h0 : ((b.trail.length : Int) == 0) = false := by rw [beq_eq_false_iff_ne]; omega
    obtain ⟨e, e1, e2, e3⟩ := runs_eq hn hv pos b v hb.over hV hb.left hh.ne (by omega) (.inl (by omega))
    obtain ⟨r, r1, r3, r2⟩ := rest e (.inl e3)
    refine ⟨r, ⟨?_, ?_⟩, r3.1, fun h => absurd m2 h, fun h => by omega⟩
    · simp only [m2, show ¬ (2 : Int) = 1 by decide, if_true, if_false, h0, Option.bind_some, cond_false, e1]
      exact r1
    · simp only [m2, show ¬ (2 : Int) = 1 by decide, show ¬ (2 : Int) = 3 by decide, show ¬ (2 : Int) = 4 by decide, if_false, Option.bind_some, cond_false, hap, e2, seqR]
      exact r2
  have m1 : b.mode = 1 := by rcases hb.mode with h | h | h | h <;> omega
  obtain ⟨h, ht, hf0, hk4⟩ := hb.waits m1
  obtain ⟨s1, s2, s3⟩ := hb.still (by omega)
  by_cases hV0 : heldF v 0 60 = 0
  · refine ⟨b, ⟨?_, ?_⟩, by omega, fun _ => .inl rfl, fun _ h y _ _ => by simp [m1, hV0]⟩
    · have h0 : ((b.trail.length : Int) == 0) = false := by rw [ht]; rfl
      have hv0 : (heldF v 0 60 == 0) = true := by rw [hV0]; rfl
      simp only [m1, if_true, h0, Option.bind_some, cond_false, hv0, cond_true, hV0]
      cases b; simp only at m1 s3; subst m1 s3; rfl
    · have hv0 : (heldF v 0 60 == 0) = true := by rw [hV0]; rfl
      simp only [m1, show ¬ (1 : Int) = 3 by decide, show ¬ (1 : Int) = 4 by decide, if_true, if_false, hv0, Option.bind_some, cond_true]
  · have hv0 : (heldF v 0 60 == 0) = false := beq_eq_false_iff_ne.2 hV0
    have hpos : 0 < heldF v 0 60 := by omega
    have h0 : ((b.trail.length : Int) == 0) = false := by rw [ht]; rfl
    -- the first round
    have hh : hasP p h = true := by simp [hasP, hf0, hk4, endsF]
    obtain ⟨el, hel, hke⟩ := hasP_idx hh
    obtain ⟨q1, q2⟩ := idx_at hel
    obtain ⟨y, hy, hyk⟩ := hv.join.gate _ el q1 (by rw [← hke]; exact hk4)
    have hnx : nextP p h = some y := by
      rw [← hy, ← q2, ← hf0]
    have hd : decide (0 < heldF v 0 60) = true := by simpa using hpos
    have hst := step_held (m := heldF v 0 60) (l := 0) hpos (by omega)
    have hml : ¬ heldF v 0 60 ≤ 0 := by omega
    have hmd : decide (heldF v 0 60 ≤ 0) = false := decide_eq_false hml
    have e2 : wi64 (heldF v 0 60 - 0) = heldF v 0 60 := by rw [wi64_id] <;> omega
    have hx : idx [h] (wi64 ((([h] : List Port).length : Int) - 1)) = some h := rfl
    have hg : throughP p y.elem y.fin ((idx pos y.elem).getD 0) = goP p pos y := rfl
    cases hgo : goP p pos y with
    | none =>
      refine ⟨b, ⟨?_, ?_⟩, by omega, fun _ => .inl rfl, fun _ h' y' q1 q2 => by
        rw [ht] at q1; cases q1; rw [hnx] at q2; cases q2
        simp [m1, hgo]⟩
      · have st : g_body_Move_l1 n pos b v (heldF v 0 60, 1, 0, [h]) = some (.inr (1, 0, 0, 0, [h])) := by
          simp only [g_body_Move_l1, hd, cond_true, hst, if_neg hml, show wi64 (0 - 0) = 0 by decide, e2, hv0, cond_false, hx, Option.bind_some, net_Next hn, hnx, Option.isSome_some, Option.getD_some, Bool.not_true, net_Kind hn, cbeq, if_neg hyk, prog_pos (hv.join.next hnx), net_Through hn, hg, hgo, show ¬ (0 : Int) > 0 by omega, if_false, s2]
          rfl
        have hl1 : decide (len ≤ (0 : Int)) = false := decide_eq_false (by omega)
        have l2 : loopR (g_body_Move_l2 n len (1, 0, 0, 0, [h])) [h] = some ⟨1, [h], 0, 0, 0⟩ := loopR_inr rfl
        simp only [m1, if_true, h0, Option.bind_some, cond_false, hv0, s1, ht, loopR_inr st, hl1, l2]
        cases b; simp only at m1 ht s1 s2 s3; subst m1 ht s1 s2 s3; rfl
      · have st : g_R24_Move_l1 p pos b (heldF v 0 60) (heldF v 0 60, 0, [h]) = some (.inr (.inr b)) := by
          have i0 : idx [h] 0 = some h := rfl
          simp only [g_R24_Move_l1, hd, cond_true, hmd, cond_false, hx, Option.bind_some, R24_ahead_eq hv, hnx, if_neg hyk, hgo, cbeq, show ¬ ((4 : Int) = 2) by decide, if_false, if_true, m1, ht, i0]
          simp
        simp only [m1, show ¬ (1 : Int) = 3 by decide, show ¬ (1 : Int) = 4 by decide, if_true, if_false, hv0, Option.bind_some, cond_false, hap]
        rw [s1, ht, loopR_inr st]; rfl
    | some o =>
      have hlen' := lengthP_le hv.args y.elem
      have st1 : g_body_Move_l1 n pos b v (heldF v 0 60, 1, 0, [h]) = some (.inl (heldF v 0 60, 2, lengthP p y.elem, [h, ⟨y.elem, o⟩])) := by
        simp only [g_body_Move_l1, hd, cond_true, hst, if_neg hml, show wi64 (0 - 0) = 0 by decide, e2, hv0, cond_false, hx, Option.bind_some, net_Next hn, hnx, Option.isSome_some, Option.getD_some, Bool.not_true, net_Kind hn, cbeq, if_neg hyk, prog_pos (hv.join.next hnx), net_Through hn, hg, hgo, show ¬ (0 : Int) > 0 by omega, if_false]
        rw [appI_ok (by simp)]
        simp only [Option.bind_some, net_Length hn]; rfl
      have st2 : g_R24_Move_l1 p pos b (heldF v 0 60) (heldF v 0 60, 0, [h]) = some (.inl (heldF v 0 60, lengthP p y.elem, [h, ⟨y.elem, o⟩])) := by
        simp only [g_R24_Move_l1, hd, cond_true, hmd, cond_false, hx, Option.bind_some, R24_ahead_eq hv, hnx, if_neg hyk, hgo, cbeq, show ¬ ((0 : Int) = 2) by decide, show ¬ ((0 : Int) = 4) by decide, if_false, e2]
        have : ((0 : Int) != 0) = false := rfl
        simp only [this, cond_false]
        rw [appI_ok (by simp)]
        simp only [Option.bind_some, g_R6_Length_eq]; rfl
      obtain ⟨e, e1, e2', e3⟩ := runs_eq hn hv pos b v hb.over hV (left := lengthP p y.elem) (tr := [h, ⟨y.elem, o⟩]) ⟨hlen'.1, hlen'.2.1⟩ (by simp) (by simp) (.inr (by simp))
      obtain ⟨r, r1, r3, r2⟩ := rest e (.inr ⟨e3.left.1, e3.left.2, e3.over.1, e3.over.2, e3.ne, by have := e3.le; omega⟩)
      refine ⟨r, ⟨?_, ?_⟩, r3.1, fun _ => .inr ⟨m1, hV0, r3.2 e3.mode⟩, fun _ h' y' q1 q2 => by
        rw [ht] at q1; cases q1; rw [hnx] at q2; cases q2
        have := r3.2 e3.mode
        simp [hgo, hV0, this]⟩
      · simp only [m1, if_true, h0, Option.bind_some, cond_false, hv0, s1, ht, loopR_inl st1, e1]
        exact r1
      · simp only [m1, show ¬ (1 : Int) = 3 by decide, show ¬ (1 : Int) = 4 by decide, if_true, if_false, hv0, Option.bind_some, cond_false, hap]
        rw [s1, ht, loopR_inl st2, e2']
        exact r2

end Go.E
/- The known answers of layer 23, reckoned by the kernel. No condition. -/
namespace Go.E
open Go Go.Proofs
set_option maxRecDepth 100000
theorem known23 : g_L23_known = some true := by kernel_rfl

end Go.E
/- The known answers of layer 24, reckoned by the kernel. No condition. -/
namespace Go.E
open Go Go.Proofs
set_option maxRecDepth 100000
end Go.E
/- Plain Lean: BodyStarts and BodyStill answer true, for every argument. No condition. -/
namespace Go.E
open Go

theorem SamePorts_refl (l : List Port) (hl : l.length < 1000000) : g_R6_SamePorts l l = some true := by
  unfold g_R6_SamePorts
  simp only [bne_self_eq_false, cond_false]
  obtain ⟨b, hb, rfl⟩ := loop_ix (l := l) (step := g_R6_SamePorts_l1 l l) (Post := fun b => b = true) (fun _ _ => True) (fun _ => ⟨true, by simp only [g_R6_SamePorts_l1, dge, cond_false], rfl⟩)
    (fun i a h _ => .inr ⟨by have := ilt h; simp only [g_R6_SamePorts_l1, dlt h, cond_true, idx_nat, h, Option.bind_some, beq_self_eq_true, Bool.not_true, cond_false, wi64_succ (show i < 1000000000 by omega)], trivial⟩)
  exact hb

theorem SameBody_refl (b : Body) (hl : b.trail.length < 1000000) : g_R24_SameBody b b = some true := by
  unfold g_R24_SameBody
  simp only [beq_self_eq_true, cond_true, SamePorts_refl _ hl, Option.bind_some]

section
variable {p : Plan} {n : Net}

theorem body_port_eq (hn : NetOf p n) (x : Port) : g_body_port n x = some (hasP p x) := by
  unfold g_body_port hasP
  by_cases h : 0 ≤ x.fin
  · simp only [h, decide_true, cond_true, net_Kind hn, Option.bind_some, g_plan_Ends_eq, Bool.true_and]
  · simp only [h, decide_false, cond_false, Option.bind_some, Bool.false_and]

theorem May_wait (hn : NetOf p n) {len : Int} {h : Port} (h1 : 1 ≤ len ∧ len ≤ 4000) (h0 : h.fin = 0) (hk : kindP p h.elem = 4) : g_body_May n len ⟨1, [h], 0, 0, 0⟩ = some true := by
  have i0 : idx [h] 0 = some h := rfl
  unfold g_body_May g_body_waits g_body_rests
  simp [show ¬ len < 1 by omega, show ¬ 4000 < len by omega, i0, net_Kind hn, hk, h0]

end

/-- A case of these laws. -/
theorem case_total (p : Plan) (pos : List Int) (len : Int) (b : Body) (hp : pos.length ≤ 100) (hb : b.trail.length ≤ 5000) (hf : g_R6_Fine p = some true) (hm : g_R24_MayBody p len b = some true) : ∃ n, g_L23_Case p pos len b = some (some n) ∧ NetOf p n := by
  obtain ⟨o, ho, hn⟩ := made_total p
  obtain ⟨n, rfl, hno⟩ := hn hf
  refine ⟨n, ?_, hno⟩
  unfold g_L23_Case
  simp only [show ¬ (100 : Int) < (pos.length : Int) by omega, show ¬ (5000 : Int) < (b.trail.length : Int) by omega, decide_false, cond_false, hf, hm, Option.bind_some, Bool.not_true, ho, optM]

theorem Whole_eq {p : Plan} {n : Net} (hn : NetOf p n) (b : Body) : ∃ r, g_body_Whole n b = some r ∧ g_R24_Whole p b = some r ∧ (r.2 = true → ∃ h, b.trail = [h] ∧ b.mode = 2 ∧ b.over = 0 ∧ kindP p h.elem = 1 ∧ r.1 = h.elem) := by
  unfold g_body_Whole g_R24_Whole
  simp only [cbne]
  by_cases m : b.mode = 2
  · by_cases l : (b.trail.length : Int) = 1
    · obtain ⟨h, hh⟩ : ∃ h, b.trail = [h] := by
        match ht : b.trail, l with
        | [h], _ => exact ⟨h, rfl⟩
        | [], l => simp at l
        | _ :: _ :: _, l => simp at l; omega
      have i0 : idx b.trail 0 = some h := by rw [hh]; rfl
      by_cases o : b.over = 0
      · by_cases k : kindP p h.elem = 1
        · exact ⟨(h.elem, true), by simp [m, l, o, i0, net_Kind hn, k], by simp [m, l, o, i0, g_R6_Kind_eq, k], fun _ => ⟨h, hh, m, o, k, rfl⟩⟩
        · have : (kindP p h.elem != 1) = true := bne_iff_ne.2 k
          exact ⟨(0, false), by simp [m, l, o, i0, net_Kind hn, this], by simp [m, l, o, i0, g_R6_Kind_eq, this], by simp⟩
      · exact ⟨(0, false), by simp [m, l, o], by simp [m, l, o], by simp⟩
    · exact ⟨(0, false), by simp [m, l], by simp [m, l], by simp⟩
  · exact ⟨(0, false), by simp [m], by simp [m], by simp⟩

end Go.E
/- Plain Lean: LoopHeld answers true, for every argument. No condition. -/
namespace Go.E
open Go

theorem compact_mem {zs : List Int} {x : Int} (h : x ∈ zs) : x ∈ Lib.compact zs := by
  obtain ⟨j, hj⟩ := List.getElem?_of_mem h
  clear h
  induction j with
  | zero =>
    have hlt := (List.getElem?_eq_some_iff.1 hj).1
    refine List.mem_map.2 ⟨0, List.mem_filter.2 ⟨List.mem_range.2 hlt, by simp [Lib.keeps]⟩, ?_⟩
    obtain ⟨h1, h2⟩ := List.getElem?_eq_some_iff.1 hj
    simp [hlt, h2]
  | succ j ih =>
    obtain ⟨hlt, hv⟩ := List.getElem?_eq_some_iff.1 hj
    have e1 : zs.toArray[j + 1]! = x := by simp [hlt, hv]
    by_cases hk : Lib.keeps zs.toArray (j + 1) = true
    · exact List.mem_map.2 ⟨j + 1, List.mem_filter.2 ⟨List.mem_range.2 hlt, hk⟩, e1⟩
    · have hj1 : j < zs.length := by omega
      simp only [Lib.keeps, Nat.add_sub_cancel, decide_eq_true_eq, not_or, Decidable.not_not] at hk
      have e2 : zs.toArray[j]! = zs[j] := by simp [hj1]
      refine ih ?_
      rw [List.getElem?_eq_getElem hj1, ← e2, ← hk.2, e1]

section
variable {p : Plan} {n : Net}

end

end Go.E
/- Plain Lean: a body's move as a function; two moves are one. No condition. -/
namespace Go.E
open Go

/-- A running body's way: mode, left, over, headings. -/
def wayF (p : Plan) (pos : List Int) (ov : Int) : Nat → Int → Int → List Port → Int × Int × Int × List Port
  | 0, _, left, tr => (2, left, ov, tr)
  | k + 1, m, left, tr => if m ≤ left then (2, left - m, ov, tr) else match tr.getLast? with
    | none => (2, 0, ov, tr)
    | some h => match nextP p h with
      | none => (2, 0, ov, tr)
      | some y => if kindP p y.elem = 4 then (2, 0, ov + (m - left), tr) else match goP p pos y with
        | none => (4, 0, ov, tr)
        | some o => wayF p pos ov k (m - left) (lengthP p y.elem) (tr ++ [⟨y.elem, o⟩])

def restM (m left : Int) : Int := if left = 0 then m + 1 else m

theorem next_len {p : Plan} (hv : Valid p) {h y : Port} (hn : nextP p h = some y) (hk : kindP p y.elem ≠ 4) : 1 ≤ lengthP p y.elem ∧ lengthP p y.elem ≤ 4000 := by
  have hh := hv.join.next hn
  obtain ⟨f1, f2, f3⟩ := hasP_fin hh
  obtain ⟨l1, l2, l3⟩ := lengthP_le hv.args y.elem
  refine ⟨l3 hk fun h0 => ?_, l2⟩
  rw [h0] at f3
  simp [endsF] at f3
  omega

theorem way_loop {p : Plan} {n : Net} (hn : NetOf p n) (hv : Valid p) (pos : List Int) (b : Body) (v : Int) (hb : 0 ≤ b.over ∧ b.over ≤ 4000) : ∀ (k : Nat) (m left : Int) (tr : List Port), 0 ≤ m ∧ m ≤ 60 → 0 ≤ left ∧ left ≤ 4000 → 1 ≤ tr.length → tr.length + k ≤ 5300 → restM m left ≤ k →
    ∃ vv, ((0 ≤ vv ∧ vv ≤ 60) ∧ ((wayF p pos b.over k m left tr).1 = 4 → vv = 0)) ∧ loopR (g_body_Move_l1 n pos b v) (m, 2, left, tr) = some ((wayF p pos b.over k m left tr).1, (wayF p pos b.over k m left tr).2.1, (wayF p pos b.over k m left tr).2.2.1, vv, (wayF p pos b.over k m left tr).2.2.2)
  | 0, m, left, tr, hm, hl, h1, h2, hr => by
    unfold restM at hr
    have hm0 : m = 0 := by split at hr <;> omega
    refine ⟨heldF v 0 60, ⟨heldF_le (by omega), fun h => by simp [wayF] at h⟩, loopR_inr ?_⟩
    simp only [g_body_Move_l1, hm0, show decide ((0 : Int) < 0) = false by decide, cond_false, hold60, wayF]
  | k + 1, m, left, tr, hm, hl, h1, h2, hr => by
    by_cases hm0 : 0 < m
    · have hd : decide (0 < m) = true := by simpa using hm0
      have hst := step_held hm0 hl.1
      by_cases hml : m ≤ left
      · refine ⟨heldF v 0 60, ⟨heldF_le (by omega), fun h => by simp [wayF, hml] at h⟩, loopR_inr ?_⟩
        have e1 : wi64 (left - m) = left - m := by rw [wi64_id] <;> omega
        have e2 : (wi64 (m - m) == 0) = true := by rw [show m - m = 0 by omega]; rfl
        simp only [g_body_Move_l1, hd, cond_true, hst, hold60, if_pos hml, e2, e1, wayF]
        rw [if_neg (by omega)]
      · have e1 : wi64 (left - left) = 0 := by rw [show left - left = 0 by omega]; rfl
        have e2 : wi64 (m - left) = m - left := by rw [wi64_id] <;> omega
        have e3 : (wi64 (m - left) == 0) = false := by rw [e2, beq_eq_false_iff_ne]; omega
        obtain ⟨h, hx, hx'⟩ := last_idx (l := tr) h1 (by omega)
        have hlast : tr.getLast? = some h := by rw [List.getLast?_eq_getElem?]; exact hx'
        have hneg : ¬ (0 : Int) > 0 := by omega
        simp only [wayF, if_neg hml, hlast]
        cases hnx : nextP p h with
        | none =>
          refine ⟨0, ⟨by omega, fun _ => rfl⟩, loopR_inr ?_⟩
          simp only [g_body_Move_l1, hd, cond_true, hst, if_neg hml, e1, e3, cond_false, hx, Option.bind_some, net_Next hn, hnx, Option.isSome_none, Bool.not_false, hneg, if_false]
        | some y =>
          by_cases hk : kindP p y.elem = 4
          · refine ⟨heldF v 0 60, ⟨heldF_le (by omega), fun h => by simp [hk] at h⟩, loopR_inr ?_⟩
            have e4 : wi64 (b.over + (m - left)) = b.over + (m - left) := by rw [wi64_id] <;> omega
            have e5 : (m - left == 0) = false := by rw [beq_eq_false_iff_ne]; omega
            simp only [g_body_Move_l1, hd, cond_true, hst, hold60, if_neg hml, e1, e3, cond_false, hx, Option.bind_some, net_Next hn, hnx, Option.isSome_some, Option.getD_some, Bool.not_true, net_Kind hn, hk, beq_self_eq_true, e2, e4, e5, cond_true, hneg, if_false, if_true]
          · simp only [if_neg hk]
            have hg : throughP p y.elem y.fin ((idx pos y.elem).getD 0) = goP p pos y := rfl
            have hkb : (kindP p y.elem == 4) = false := beq_eq_false_iff_ne.2 hk
            cases hgo : goP p pos y with
            | none =>
              refine ⟨0, ⟨by omega, fun _ => rfl⟩, loopR_inr ?_⟩
              simp only [g_body_Move_l1, hd, cond_true, hst, if_neg hml, e1, e3, cond_false, hx, Option.bind_some, net_Next hn, hnx, Option.isSome_some, Option.getD_some, Bool.not_true, net_Kind hn, hkb, prog_pos (hv.join.next hnx), net_Through hn, hg, hgo, Option.isSome_none, Bool.not_false, beq_self_eq_true, hneg, if_false]
            | some o =>
              obtain ⟨g1, g2⟩ := next_len hv hnx hk
              have hr' : restM (m - left) (lengthP p y.elem) ≤ (k : Int) := by
                unfold restM at hr ⊢
                rw [if_neg (by omega)]
                split at hr <;> omega
              obtain ⟨vv, hq, hvv⟩ := way_loop hn hv pos b v hb k (m - left) (lengthP p y.elem) (tr ++ [⟨y.elem, o⟩]) (by omega) (by omega) (by simp) (by simp; omega) hr'
              refine ⟨vv, hq, ?_⟩
              rw [loopR_inl (s' := (m - left, 2, lengthP p y.elem, tr ++ [⟨y.elem, o⟩])) (by
                simp only [g_body_Move_l1, hd, cond_true, hst, if_neg hml, e1, e2, cond_false, hx, Option.bind_some, net_Next hn, hnx, Option.isSome_some, Option.getD_some, Bool.not_true, net_Kind hn, hkb, prog_pos (hv.join.next hnx), net_Through hn, hg, hgo, show (m - left == 0) = false by rw [beq_eq_false_iff_ne]; omega]
                rw [appI_ok (by simp; omega)]
                simp only [Option.bind_some, net_Length hn])]
              exact hvv
    · have hm0' : m = 0 := by omega
      refine ⟨heldF v 0 60, ⟨heldF_le (by omega), fun h => by simp [wayF, hm0', hl.1] at h⟩, loopR_inr ?_⟩
      simp only [g_body_Move_l1, hm0', show decide ((0 : Int) < 0) = false by decide, cond_false, hold60, wayF, hl.1, if_true]
      simp

/-! ### what is left of the trail -/
def trimF (p : Plan) (len c : Int) : List Port → List Port
  | [] => []
  | [h] => [h]
  | h :: g :: r => if len ≤ c + sumL p (g :: r) then trimF p len c (g :: r) else h :: g :: r

theorem roomF_sum (p : Plan) : ∀ (l : List Port) (s : Int), roomF p s l = s + sumL p l
  | [], s => by simp [roomF, sumL]
  | h :: r, s => by simp only [roomF, sumL, roomF_sum p r]; omega

theorem trim_suffix (p : Plan) (len c : Int) : ∀ tr : List Port, ∃ pre, tr = pre ++ trimF p len c tr ∧ (tr ≠ [] → trimF p len c tr ≠ [])
  | [] => ⟨[], rfl, by simp⟩
  | [h] => ⟨[], rfl, by simp [trimF]⟩
  | h :: g :: r => by
    unfold trimF
    split
    · obtain ⟨pre, h1, h2⟩ := trim_suffix p len c (g :: r)
      exact ⟨h :: pre, by rw [List.cons_append, ← h1], fun _ => h2 (by simp)⟩
    · exact ⟨[], rfl, fun h => h⟩

theorem trim_loop {p : Plan} {n : Net} (hn : NetOf p n) (hv : Valid p) (len : Int) (e : Int × Int × Int × Int × List Port) (h2 : 0 ≤ e.2.1 ∧ e.2.1 ≤ 4000) (h3 : 0 ≤ e.2.2.1 ∧ e.2.2.1 ≤ 4060) : ∀ (tr : List Port), 1 ≤ tr.length → tr.length ≤ 6000 →
    loopR (g_body_Move_l2 n len e) tr = some ⟨e.1, trimF p len (e.2.2.1 - e.2.1) tr, e.2.1, e.2.2.1, e.2.2.2.1⟩
  | [], h1, _ => by simp at h1
  | [h], _, _ => by
    refine loopR_inr ?_
    have hdd : decide ((1 : Int) < (([h] : List Port).length : Int)) = false := by simp
    simp only [g_body_Move_l2, hdd, cond_false, Option.bind_some, trimF]
  | h :: g :: r, h1, hl => by
    have hdd : decide ((1 : Int) < ((h :: g :: r).length : Int)) = true := by simp; omega
    have hh := has_eq hn hv ⟨e.1, h :: g :: r, e.2.1, e.2.2.1, e.2.2.2.1⟩ (by simp) (by simp only; exact hl) h2 h3
    simp only [List.drop_succ_cons, List.drop_zero, roomF_sum] at hh
    by_cases hc : len ≤ e.2.2.1 - e.2.1 + sumL p (g :: r)
    · rw [loopR_inl (s' := g :: r) (by
        simp only [g_body_Move_l2, hdd, cond_true, hh, Option.bind_some, decide_eq_true hc]
        rw [delI_first (by simp)]; rfl)]
      rw [trim_loop hn hv len e h2 h3 (g :: r) (by simp) (by simp at hl ⊢; omega)]
      simp only [trimF, if_pos hc]
    · refine loopR_inr ?_
      simp only [g_body_Move_l2, hdd, cond_true, hh, Option.bind_some, decide_eq_false hc, cond_false, trimF, if_neg hc]

theorem sumL_append (p : Plan) : ∀ a b : List Port, sumL p (a ++ b) = sumL p a + sumL p b
  | [], b => by simp [sumL]
  | h :: a, b => by simp only [List.cons_append, sumL, sumL_append p a b]; omega

/-! ### ways -/
/-- What a way adds. -/
structure WayOK (p : Plan) (ov lf : Int) (tr : List Port) (e : Int × Int × Int × List Port) (m : Int) (k : Nat) : Prop where
  mode : e.1 = 2 ∨ e.1 = 4
  left : 0 ≤ e.2.1 ∧ e.2.1 ≤ 4000
  over : ov ≤ e.2.2.1 ∧ e.2.2.1 ≤ ov + m
  app : ∃ a, e.2.2.2 = tr ++ a ∧ a.length ≤ k ∧ ov - lf ≤ e.2.2.1 - e.2.1 + sumL p a

theorem way_ok {p : Plan} (hv : Valid p) (pos : List Int) (ov : Int) : ∀ (k : Nat) (m left : Int) (tr : List Port), 0 ≤ m → 0 ≤ left ∧ left ≤ 4000 → WayOK p ov left tr (wayF p pos ov k m left tr) m k
  | 0, m, left, tr, hm, hl => ⟨.inl rfl, hl, by simp [wayF]; omega, [], by simp [wayF], by simp, by simp [wayF, sumL]⟩
  | k + 1, m, left, tr, hm, hl => by
    simp only [wayF]
    split
    · rename_i hml
      exact ⟨.inl rfl, by simp only; omega, by simp only; omega, [], by simp, by simp, by simp only [sumL]; omega⟩
    · rename_i hml
      cases tr.getLast? with
      | none => exact ⟨.inl rfl, by simp, by simp only; omega, [], by simp, by simp, by simp only [sumL]; omega⟩
      | some h =>
        simp only
        cases hnx : nextP p h with
        | none => exact ⟨.inl rfl, by simp, by simp only; omega, [], by simp, by simp, by simp only [sumL]; omega⟩
        | some y =>
          simp only
          split
          · exact ⟨.inl rfl, by simp, by simp only; omega, [], by simp, by simp, by simp only [sumL]; omega⟩
          · rename_i hk
            cases goP p pos y with
            | none => exact ⟨.inr rfl, by simp, by simp only; omega, [], by simp, by simp, by simp only [sumL]; omega⟩
            | some o =>
              obtain ⟨g1, g2⟩ := next_len hv hnx hk
              obtain ⟨w1, w2, w3, a, w4, w5, w6⟩ := way_ok hv pos ov k (m - left) (lengthP p y.elem) (tr ++ [⟨y.elem, o⟩]) (by omega) (by omega)
              simp only
              refine ⟨w1, w2, by omega, ⟨y.elem, o⟩ :: a, by rw [w4]; simp, by simp; omega, ?_⟩
              simp only [sumL]
              omega

/-! ### a move -/
/-- What a way ends in. -/
def finF (p : Plan) (len : Int) (e : Int × Int × Int × List Port) (vv : Int) : Body :=
  if len ≤ e.2.2.1 then ⟨3, [], 0, 0, 0⟩ else ⟨e.1, trimF p len (e.2.2.1 - e.2.1) e.2.2.2, e.2.1, e.2.2.1, vv⟩

theorem fin_eq {p : Plan} {n : Net} (hn : NetOf p n) (hv : Valid p) (len : Int) (e : Int × Int × Int × List Port) (vv : Int) (h2 : 0 ≤ e.2.1 ∧ e.2.1 ≤ 4000) (h3 : 0 ≤ e.2.2.1 ∧ e.2.2.1 ≤ 4060) (h1 : 1 ≤ e.2.2.2.length) (hl : e.2.2.2.length ≤ 6000) :
    (bif decide (len ≤ e.2.2.1) then some (⟨3, [], 0, 0, 0⟩ : Body) else loopR (g_body_Move_l2 n len (e.1, e.2.1, e.2.2.1, vv, e.2.2.2)) e.2.2.2) = some (finF p len e vv) := by
  unfold finF
  by_cases h : len ≤ e.2.2.1
  · simp only [decide_eq_true h, cond_true, if_pos h]
  · simp only [decide_eq_false h, cond_false, if_neg h]
    exact trim_loop hn hv len (e.1, e.2.1, e.2.2.1, vv, e.2.2.2) h2 h3 e.2.2.2 h1 hl

theorem held_id {v : Int} (h : 0 ≤ v ∧ v ≤ 60) : heldF v 0 60 = v := by
  unfold heldF
  repeat' split
  all_goals omega

theorem Move_run {p : Plan} {n : Net} (hn : NetOf p n) (hv : Valid p) (pos : List Int) (len : Int) {b : Body} (m2 : b.mode = 2) (ho : 0 ≤ b.over ∧ b.over ≤ 4000) (hl : 0 ≤ b.left ∧ b.left ≤ 4000) (h1 : 1 ≤ b.trail.length) (h2 : b.trail.length ≤ 5200) {v : Int} (hV : 0 ≤ v ∧ v ≤ 60) :
    ∃ vv, g_body_Move n pos len b v = some (finF p len (wayF p pos b.over 70 v b.left b.trail) vv) ∧ ((0 ≤ vv ∧ vv ≤ 60) ∧ ((wayF p pos b.over 70 v b.left b.trail).1 = 4 → vv = 0)) := by
  obtain ⟨vv, hq, hw⟩ := way_loop hn hv pos b v ho 70 v b.left b.trail hV hl h1 (by omega) (by unfold restM; split <;> omega)
  obtain ⟨w1, w2, w3, a, w4, w5, w6⟩ := way_ok hv pos b.over 70 v b.left b.trail hV.1 hl
  refine ⟨vv, ?_, hq⟩
  have h0 : ((b.trail.length : Int) == 0) = false := by rw [beq_eq_false_iff_ne]; omega
  have hf := fin_eq hn hv len (wayF p pos b.over 70 v b.left b.trail) vv w2 (by omega) (by rw [w4]; simp; omega) (by rw [w4]; simp; omega)
  unfold g_body_Move
  simp only [Clone_ports b.trail (by omega), Option.bind_some, hold60, held_id hV, cbne, cbeq, m2, show ¬ (2 : Int) = 1 by decide, if_true, if_false, h0, cond_false, hw]
  exact hf

theorem Move_still {n : Net} (pos : List Int) (len : Int) {b : Body} (m1 : b.mode ≠ 1) (m2 : b.mode ≠ 2) (h2 : b.trail.length ≤ 6000) (v : Int) : g_body_Move n pos len b v = some b := by
  unfold g_body_Move
  simp only [Clone_ports b.trail (by omega), Option.bind_some, cbne, if_neg m1, if_neg m2, cond_true]

theorem Move_wait {p : Plan} {n : Net} (hn : NetOf p n) (hv : Valid p) (pos : List Int) {len : Int} {b : Body} (hb : BodyOK p len b) (m1 : b.mode = 1) {h : Port} (ht : b.trail = [h]) {y : Port} (hnx : nextP p h = some y) (hyk : kindP p y.elem ≠ 4) {v : Int} (hV : 0 ≤ v ∧ v ≤ 60) :
    (g_body_Move n pos len b v = some b ∧ (v = 0 ∨ goP p pos y = none)) ∨ (0 < v ∧ ∃ o vv, goP p pos y = some o ∧ g_body_Move n pos len b v = some (finF p len (wayF p pos 0 70 v (lengthP p y.elem) [h, ⟨y.elem, o⟩]) vv) ∧ ((0 ≤ vv ∧ vv ≤ 60) ∧ ((wayF p pos 0 70 v (lengthP p y.elem) [h, ⟨y.elem, o⟩]).1 = 4 → vv = 0))) := by
  obtain ⟨s1, s2, s3⟩ := hb.still (by omega)
  have h0 : ((b.trail.length : Int) == 0) = false := by rw [ht]; rfl
  obtain ⟨g1, g2⟩ := next_len hv hnx hyk
  by_cases hv0 : v = 0
  · left
    refine ⟨?_, .inl hv0⟩
    obtain ⟨c, ⟨hc, -⟩, -, hc', -⟩ := Move_eq hn hv hb (by rw [ht]; simp) pos v
    rcases hc' (by omega) with rfl | ⟨_, hq, _⟩
    · exact hc
    · rw [held_id hV] at hq; exact absurd hv0 hq
  · cases hgo : goP p pos y with
    | none =>
      left
      obtain ⟨c, ⟨hc, -⟩, -, hc', hc2⟩ := Move_eq hn hv hb (by rw [ht]; simp) pos v
      have hm := (hc2 m1 h y ht hnx).2 (.inr hgo)
      rcases hc' (by omega) with rfl | ⟨_, _, hq⟩
      · exact ⟨hc, .inr rfl⟩
      · exact absurd hm hq
    | some o =>
      right
      refine ⟨by omega, o, ?_⟩
      have hvb : (v == 0) = false := beq_eq_false_iff_ne.2 hv0
      have hd : decide (0 < v) = true := by simp; omega
      have hst := step_held (m := v) (l := 0) (by omega) (by omega)
      have hml : ¬ v ≤ 0 := by omega
      have e2 : wi64 (v - 0) = v := by rw [wi64_id] <;> omega
      have hx : idx [h] (wi64 ((([h] : List Port).length : Int) - 1)) = some h := rfl
      have hg : throughP p y.elem y.fin ((idx pos y.elem).getD 0) = goP p pos y := rfl
      have st1 : g_body_Move_l1 n pos b v (v, 1, 0, [h]) = some (.inl (v, 2, lengthP p y.elem, [h, ⟨y.elem, o⟩])) := by
        simp only [g_body_Move_l1, hd, cond_true, hst, if_neg hml, show wi64 (0 - 0) = 0 by decide, e2, hvb, cond_false, hx, Option.bind_some, net_Next hn, hnx, Option.isSome_some, Option.getD_some, Bool.not_true, net_Kind hn, cbeq, if_neg hyk, prog_pos (hv.join.next hnx), net_Through hn, hg, hgo, show ¬ (0 : Int) > 0 by omega, if_false]
        rw [appI_ok (by simp)]
        simp only [Option.bind_some, net_Length hn]; rfl
      obtain ⟨vv, hq, hw⟩ := way_loop hn hv pos b v hb.over 70 v (lengthP p y.elem) [h, ⟨y.elem, o⟩] hV (by omega) (by simp) (by simp) (by unfold restM; split <;> omega)
      obtain ⟨w1, w2, w3, a, w4, w5, w6⟩ := way_ok hv pos b.over 70 v (lengthP p y.elem) [h, ⟨y.elem, o⟩] hV.1 (by omega)
      have hf := fin_eq hn hv len (wayF p pos b.over 70 v (lengthP p y.elem) [h, ⟨y.elem, o⟩]) vv w2 (by omega) (by rw [w4]; simp) (by rw [w4]; simp; omega)
      refine ⟨vv, rfl, ?_, by rw [s2] at hq; exact hq⟩
      rw [s2] at hf hw
      unfold g_body_Move
      have hl0 : ¬ ((([h] : List Port).length : Int) = 0) := by simp
      simp only [ht, Clone_ports [h] (by simp), Option.bind_some, hold60, held_id hV, cbne, cbeq, m1, if_true, if_neg hl0, h0, cond_false, hvb, if_neg hv0, s1, loopR_inl st1, hw]
      exact hf

end Go.E
/- Plain Lean: LoopTells answers true, for every argument. No condition. -/
namespace Go.E
open Go

theorem mem_compact {zs : List Int} {x : Int} (h : x ∈ Lib.compact zs) : x ∈ zs := by
  obtain ⟨j, hj, rfl⟩ := List.mem_map.1 h
  have hlt : j < zs.length := List.mem_range.1 (List.mem_filter.1 hj).1
  have : zs.toArray[j]! = zs[j] := by simp [hlt]
  rw [this]; exact List.getElem_mem hlt

section
variable {p : Plan} {n : Net}

/-- Somebody lies in an element. -/
def InB (p : Plan) (b : Body) (x : Int) : Prop := ∃ h ∈ b.trail, kindP p h.elem ≠ 4 ∧ h.elem = x

theorem InB_range (hv : Valid p) {len : Int} {b : Body} (hb : BodyOK p len b) {x : Int} (h : InB p b x) : (b.mode = 2 ∨ b.mode = 4) ∧ 0 ≤ x ∧ x < (p.elems.length : Int) := by
  obtain ⟨g, hg, hk, rfl⟩ := h
  have hm : b.mode = 2 ∨ b.mode = 4 := by
    rcases hb.mode with m | m | m | m
    · obtain ⟨g', ht, _, hk'⟩ := hb.waits m
      rw [ht] at hg
      simp at hg; subst hg
      exact absurd hk' hk
    · exact .inl m
    · rw [hb.home m] at hg; simp at hg
    · exact .inr m
  obtain ⟨i, hi⟩ := List.getElem?_of_mem hg
  obtain ⟨h1, -⟩ := (hb.heads hm).port i g hi
  obtain ⟨e, he, -⟩ := hasP_idx h1
  exact ⟨hm, idx_len he⟩

theorem Lies_sp (hn : NetOf p n) (b : Body) (hl : b.trail.length ≤ 5000) : ∃ out, g_body_Lies n b = some (Lib.compact (isort out)) ∧ out.length ≤ 5000 ∧ ∀ x, x ∈ out ↔ InB p b x := by
  have main : ∃ r, g_body_Lies n b = some r ∧ ∃ out, r = Lib.compact (isort out) ∧ out.length ≤ 5000 ∧ ∀ x, x ∈ out ↔ InB p b x := by
    unfold g_body_Lies
    refine loop_st (l := b.trail) (I := fun i out => out.length ≤ i ∧ ∀ x, x ∈ out ↔ ∃ (j : Nat) (h : Port), j < i ∧ b.trail[j]? = some h ∧ kindP p h.elem ≠ 4 ∧ h.elem = x) (fun out ⟨h1, h2⟩ => ?_) (fun i h out hi ⟨h1, h2⟩ => ?_) ⟨by simp, fun x => by simp⟩
    · have e1 : sortI out = some (isort out) := by unfold sortI; rw [if_pos (by omega)]
      have hp := isort_perm out
      have e2 : compI (isort out) = some (Lib.compact (isort out)) := by unfold compI; rw [if_pos (by rw [hp.length_eq]; omega)]
      refine ⟨Lib.compact (isort out), by simp only [g_body_Lies_l1, dge, cond_false, e1, e2, Option.bind_some, Option.map_some], out, rfl, by omega, fun x => ?_⟩
      rw [h2 x]
      constructor
      · rintro ⟨j, h, _, hj, hk, he⟩; exact ⟨h, List.mem_of_getElem? hj, hk, he⟩
      · rintro ⟨h, hh, hk, he⟩
        obtain ⟨j, hj⟩ := List.getElem?_of_mem hh
        exact ⟨j, h, ilt hj, hj, hk, he⟩
    · have := ilt hi
      right
      by_cases hk : kindP p h.elem = 4
      · refine ⟨out, by simp only [g_body_Lies_l1, dlt hi, cond_true, idx_nat, hi, Option.bind_some, net_Kind hn, cbne, if_pos hk, wi64_succ (show i < 1000000000 by omega)], by omega, fun x => ?_⟩
        rw [h2 x]
        constructor
        · rintro ⟨j, g, hj, q⟩; exact ⟨j, g, by omega, q⟩
        · rintro ⟨j, g, hj, q1, q2, q3⟩
          refine ⟨j, g, ?_, q1, q2, q3⟩
          by_cases e : j = i
          · subst e; rw [hi] at q1; cases q1; exact absurd hk q2
          · omega
      · refine ⟨out ++ [h.elem], by simp only [g_body_Lies_l1, dlt hi, cond_true, idx_nat, hi, Option.bind_some, net_Kind hn, cbne, if_neg hk, appI_ok (show out.length + [h.elem].length ≤ 4294967296 by simp; omega), wi64_succ (show i < 1000000000 by omega)], by simp; omega, fun x => ?_⟩
        rw [List.mem_append, h2 x]
        constructor
        · rintro (⟨j, g, hj, q⟩ | hx)
          · exact ⟨j, g, by omega, q⟩
          · exact ⟨i, h, by omega, hi, hk, by simpa using (List.mem_singleton.1 hx).symm⟩
        · rintro ⟨j, g, hj, q1, q2, q3⟩
          by_cases e : j = i
          · subst e; rw [hi] at q1; cases q1; exact .inr (by simp [q3])
          · exact .inl ⟨j, g, by omega, q1, q2, q3⟩
  obtain ⟨r, hr, out, rfl, h1, h2⟩ := main
  exact ⟨out, hr, h1, h2⟩

/-- The document's list: in rising order, each once. -/
theorem RLies_sp (hv : Valid p) {len : Int} {b : Body} (hb : BodyOK p len b) (hl : b.trail.length ≤ 5000) : ∃ ls, g_R24_Lies p b = some ls ∧ ls.Pairwise (· < ·) ∧ ls.length ≤ 40 ∧ ∀ x, x ∈ ls ↔ InB p b x := by
  have hne := hv.ne
  unfold g_R24_Lies
  simp only [cbne]
  by_cases hm : b.mode = 2 ∨ b.mode = 4
  · have e0 : ((if b.mode = 2 then some false else some (b.mode != 4)) : Option Bool) = some false := by
      rcases hm with h | h
      · simp [h]
      · simp [h]
    simp only [e0, Option.bind_some, cond_false]
    have hh := hb.heads hm
    refine loop_st (l := b.trail) (I := fun i (a : ArrL 40 Bool) => ∀ k : Nat, a.1[k]? = some true ↔ ∃ (j : Nat) (h : Port), j < i ∧ b.trail[j]? = some h ∧ kindP p h.elem ≠ 4 ∧ h.elem = (k : Int)) (fun a ha => ?_) (fun i h a hi ha => ?_) (fun k => ?_)
    · -- the second loop
      have inner : ∃ r, loopR (g_R24_Lies_l2 ((b.trail.length : Int), a)) (((0 : Nat) : Int), ([] : List Int)) = some r ∧ (r.Pairwise (· < ·) ∧ r.length ≤ 40 ∧ ∀ x, x ∈ r ↔ ∃ j : Nat, j < 40 ∧ a.1[j]? = some true ∧ x = (j : Int)) := by
        refine loop_up (fun k s => s.1 = (k : Int) ∧ k ≤ 40 ∧ s.2.Pairwise (· < ·) ∧ s.2.length ≤ k ∧ ∀ x, x ∈ s.2 ↔ ∃ j : Nat, j < k ∧ a.1[j]? = some true ∧ x = (j : Int)) 40 ?_ ⟨rfl, by omega, by simp, by simp, fun x => by simp⟩
        rintro k ⟨s, out⟩ ⟨hs, hk, h1, h2, h3⟩
        simp only at hs h1 h2 h3
        subst hs
        by_cases hk4 : k = 40
        · subst hk4
          exact .inl ⟨out, by simp only [g_R24_Lies_l2, show decide (((40 : Nat) : Int) < 40) = false by decide, cond_false], h1, h2, h3⟩
        · right
          have hd : decide ((k : Int) < 40) = true := by simp; omega
          have hal := a.2
          obtain ⟨y, hy⟩ : ∃ y, a.1[k]? = some y := ⟨_, List.getElem?_eq_getElem (by omega)⟩
          cases y with
          | false =>
            refine ⟨by omega, (((k + 1 : Nat) : Int), out), by simp only [g_R24_Lies_l2, hd, cond_true, idx_nat, hy, Option.bind_some, cond_false, wi64_succ (show k < 1000000000 by omega)], rfl, by omega, h1, by simp only; omega, fun x => ?_⟩
            rw [h3 x]
            constructor
            · rintro ⟨j, hj, q⟩; exact ⟨j, by omega, q⟩
            · rintro ⟨j, hj, q1, q2⟩
              refine ⟨j, ?_, q1, q2⟩
              by_cases e : j = k
              · subst e; rw [hy] at q1; cases q1
              · omega
          | true =>
            refine ⟨by omega, (((k + 1 : Nat) : Int), out ++ [(k : Int)]), by simp only [g_R24_Lies_l2, hd, cond_true, idx_nat, hy, Option.bind_some, appI_ok (show out.length + [(k : Int)].length ≤ 4294967296 by simp; omega), wi64_succ (show k < 1000000000 by omega)], rfl, by omega, ?_, by simp; omega, fun x => ?_⟩
            · refine List.pairwise_append.2 ⟨h1, by simp, fun u hu w hw => ?_⟩
              obtain ⟨j, hj, _, rfl⟩ := (h3 u).1 hu
              rw [List.mem_singleton.1 hw]; omega
            · simp only [List.mem_append, h3 x, List.mem_singleton]
              constructor
              · rintro (⟨j, hj, q⟩ | rfl)
                · exact ⟨j, by omega, q⟩
                · exact ⟨k, by omega, hy, rfl⟩
              · rintro ⟨j, hj, q1, q2⟩
                by_cases e : j = k
                · subst e; exact .inr q2
                · exact .inl ⟨j, by omega, q1, q2⟩
      obtain ⟨r, hr, r1, r2, r3⟩ := inner
      rw [show ((0 : Nat) : Int) = 0 from rfl] at hr
      refine ⟨r, by simp only [g_R24_Lies_l1, dge, cond_false, hr, Option.map_some], r1, r2, fun x => ?_⟩
      rw [r3 x]
      constructor
      · rintro ⟨j, _, hj, rfl⟩
        obtain ⟨i, h, _, q1, q2, q3⟩ := (ha j).1 hj
        exact ⟨h, List.mem_of_getElem? q1, q2, q3⟩
      · intro hx
        obtain ⟨-, x0, x1⟩ := InB_range hv hb hx
        obtain ⟨h, hh', hk, rfl⟩ := hx
        obtain ⟨i, hi⟩ := List.getElem?_of_mem hh'
        exact ⟨h.elem.toNat, by omega, (ha _).2 ⟨i, h, ilt hi, hi, hk, by omega⟩, by omega⟩
    · right
      have hil := ilt hi
      obtain ⟨h1, -⟩ := hh.port i h hi
      obtain ⟨e, he, -⟩ := hasP_idx h1
      obtain ⟨x0, x1⟩ := idx_len he
      have hal := a.2
      obtain ⟨y, hy⟩ := idx_of (l := a.1) (n := h.elem) x0 (by omega)
      refine ⟨setA a h.elem (kindP p h.elem != 4), by simp only [g_R24_Lies_l1, dlt hi, cond_true, idx_nat, hi, Option.bind_some, g_R6_Kind_eq, hy, wi64_succ (show i < 1000000000 by omega)], fun k => ?_⟩
      show (a.1.set h.elem.toNat (kindP p h.elem != 4))[k]? = some true ↔ _
      by_cases e : h.elem.toNat = k
      · subst e
        rw [List.getElem?_set_self (by omega)]
        constructor
        · intro q
          have : (kindP p h.elem != 4) = true := Option.some.inj q
          exact ⟨i, h, by omega, hi, by simpa using this, by omega⟩
        · rintro ⟨j, g, hj, q1, q2, q3⟩
          have : g.elem = h.elem := by omega
          rw [this] at q2
          simp [q2]
      · rw [List.getElem?_set_ne e, ha k]
        constructor
        · rintro ⟨j, g, hj, q⟩; exact ⟨j, g, by omega, q⟩
        · rintro ⟨j, g, hj, q1, q2, q3⟩
          refine ⟨j, g, ?_, q1, q2, q3⟩
          by_cases e' : j = i
          · subst e'; rw [hi] at q1; cases q1; omega
          · omega
    · constructor
      · intro h
        have : (zeroA 40 false : ArrL 40 Bool).1 = List.replicate 40 false := rfl
        rw [this] at h
        cases List.eq_of_mem_replicate (List.mem_of_getElem? h)
      · rintro ⟨j, h, hj, _⟩; omega
  · have e0 : ((if b.mode = 2 then some false else some (b.mode != 4)) : Option Bool) = some true := by
      have m2 : ¬ b.mode = 2 := fun h => hm (.inl h)
      have m4 : ¬ b.mode = 4 := fun h => hm (.inr h)
      simp [m2, m4]
    simp only [e0, Option.bind_some, cond_true]
    exact ⟨[], rfl, by simp, by simp, fun x => ⟨fun h => by simp at h, fun h => absurd (InB_range hv hb h).1 hm⟩⟩

/-! ### who is first -/
end

end Go.E
/- Plain Lean: BodyMoves answers true, for every argument. No condition. -/
namespace Go.E
open Go

/-! ### the program takes what the document takes -/
section
variable {p : Plan} {n : Net}

theorem follows_ok (hn : NetOf p n) {g h y : Port} {w : Way} (h1 : nextP p g = some y) (h2 : y.elem = h.elem) (h3 : w ∈ outsP p y.elem y.fin) (h4 : w.out = h.fin) : g_body_follows n g h = some true := by
  unfold g_body_follows
  have hl := outsP_len p y.elem y.fin
  have key : ∃ t, loopR (g_body_follows_l1 h (outsP p y.elem y.fin)) ((0 : Nat) : Int) = some t ∧ 0 ≤ t := by
    refine loop_ix (l := outsP p y.elem y.fin) (step := g_body_follows_l1 h (outsP p y.elem y.fin)) (fun _ x => x.out ≠ h.fin) (fun good => ?_) (fun i x hi _ => ?_)
    · obtain ⟨j, hj⟩ := List.getElem?_of_mem h3
      exact absurd h4 (good j w hj)
    · have := ilt hi
      by_cases e : x.out = h.fin
      · exact .inl ⟨(i : Int), by simp only [g_body_follows_l1, g_body_follows_1, dlt hi, cond_true, idx_nat, hi, Option.bind_some, e, beq_self_eq_true], by omega⟩
      · have eb : (x.out == h.fin) = false := beq_eq_false_iff_ne.2 e
        exact .inr ⟨by simp only [g_body_follows_l1, g_body_follows_1, dlt hi, cond_true, idx_nat, hi, Option.bind_some, eb, cond_false, wi64_succ (show i < 1000000000 by omega)], e⟩
  obtain ⟨t, ht, h0⟩ := key
  rw [show ((0 : Nat) : Int) = 0 from rfl] at ht
  simp only [net_Next hn, h1, Option.isSome_some, Option.getD_some, Option.bind_some, cond_true, h2, beq_self_eq_true]
  rw [← h2]
  simp only [net_Outs hn, Option.bind_some, ht, h0, decide_true]

theorem trailed_ok (hn : NetOf p n) {b : Body} (hh : HeadsOK p b.trail) (hl : b.trail.length ≤ 6000) : g_body_trailed n b = some true := by
  have h1 := hh.ne
  have e : wi64 ((b.trail.length : Int) - 1) = (b.trail.length : Int) - 1 := by rw [wi64_id] <;> omega
  have key : ∃ t, loopR (g_body_trailed_l1 n b) ((0 : Nat) : Int) = some t ∧ t = true := by
    refine loop_ix (l := b.trail) (step := g_body_trailed_l1 n b) (fun _ _ => True) (fun _ => ?_) (fun i h hi _ => ?_)
    · exact ⟨true, by simp only [g_body_trailed_l1, dge, cond_false, e, show 0 ≤ (b.trail.length : Int) - 1 by omega, decide_true], rfl⟩
    · have hil := ilt hi
      obtain ⟨hp, hk⟩ := hh.port i h hi
      have fol : 0 < i → (idx b.trail (wi64 ((i : Int) - 1))).bind (fun y710 => (g_body_follows n y710 h).bind fun y712 => some (!y712)) = some false := by
        intro h0
        have e1 : wi64 ((i : Int) - 1) = ((i - 1 : Nat) : Int) := by rw [wi64_id] <;> omega
        have hg : b.trail[i - 1]? = some (b.trail[i - 1]'(by omega)) := List.getElem?_eq_getElem _
        obtain ⟨y, w, l1, l2, l3, l4⟩ := hh.link (i - 1) _ h hg (by rw [show i - 1 + 1 = i by omega]; exact hi)
        simp only [e1, idx_nat, hg, Option.bind_some, follows_ok hn l1 l2 l3 l4, Bool.not_true]
      have hw := wi64_succ (show i < 1000000000 by omega)
      refine .inr ⟨?_, trivial⟩
      by_cases k4 : kindP p h.elem = 4
      · obtain ⟨i0, l1⟩ := hk k4
        subst i0
        have d2 : (((0 : Nat) : Int) == (b.trail.length : Int) - 1) = false := by rw [beq_eq_false_iff_ne]; omega
        simp only [g_body_trailed_l1, dlt hi, cond_true, idx_nat, hi, Option.bind_some, body_port_eq hn, hp, Bool.not_true, cond_false, net_Kind hn, k4, beq_self_eq_true, e, d2, show decide ((0 : Int) < ((0 : Nat) : Int)) = false by decide, hw, show decide (((0 : Nat) : Int) > 0) = false by decide]
      · have kb : (kindP p h.elem == 4) = false := beq_eq_false_iff_ne.2 k4
        by_cases h0 : 0 < i
        · have d0 : decide ((0 : Int) < (i : Int)) = true := by simp; omega
          simp only [g_body_trailed_l1, dlt hi, cond_true, idx_nat, hi, Option.bind_some, body_port_eq hn, hp, Bool.not_true, cond_false, net_Kind hn, kb, d0, fol h0, hw]
        · have d0 : decide ((0 : Int) < (i : Int)) = false := by simp; omega
          simp only [g_body_trailed_l1, dlt hi, cond_true, idx_nat, hi, Option.bind_some, body_port_eq hn, hp, Bool.not_true, cond_false, net_Kind hn, kb, d0, hw]
  obtain ⟨t, ht, rfl⟩ := key
  exact ht

theorem goes_ok (hn : NetOf p n) (hv : Valid p) {len : Int} {b : Body} (hb : BodyOK p len b) (m2 : b.mode = 2) (hl : b.trail.length ≤ 6000) : g_body_goes n len b = some true := by
  have hh := hb.heads (.inl m2)
  obtain ⟨x, hx, hx'⟩ := last_idx hh.ne (by omega)
  have h1 := hb.left; have h2 := hb.lefts (.inl m2) x hx'; have h3 := hb.v; have h4 := hb.over; have h5 := hb.ov (.inl m2)
  unfold g_body_goes
  simp only [hx, Option.bind_some, show ¬ b.left < 0 by omega, net_Length hn, show ¬ lengthP p x.elem ≤ b.left by omega, show ¬ b.v < 0 by omega, show ¬ 60 < b.v by omega, show ¬ b.over < 0 by omega, show ¬ len ≤ b.over by omega, decide_false, cond_false, cbeq]
  by_cases o : b.over = 0
  · simp only [if_pos o, Option.bind_some]
  · obtain ⟨o1, o2⟩ := hb.overs (by omega)
    obtain ⟨y, hy, hk⟩ := o2 x hx'
    have hg : g_body_gate n x = some true := by
      unfold g_body_gate
      simp [net_Next hn, hy, net_Kind hn, hk]
    simp only [if_neg o, if_pos o1, hg, Option.bind_some]

theorem lies_ok (hn : NetOf p n) (hv : Valid p) {len : Int} {b : Body} (hlen : 1 ≤ len ∧ len ≤ 4000) (ho : 0 ≤ b.over ∧ b.over ≤ 4000) (hle : 0 ≤ b.left ∧ b.left ≤ 4000) (h1 : 1 ≤ b.trail.length) (hl : b.trail.length ≤ 6000) (hL : ∀ h, b.trail[0]? = some h → LieOK p len b h) : g_body_lies n len b = some true := by
  have e : wi64 ((b.trail.length : Int) - 1) = (b.trail.length : Int) - 1 := by rw [wi64_id] <;> omega
  have e0 : wi64 (len - b.over) = len - b.over := by rw [wi64_id] <;> omega
  unfold g_body_lies
  rw [e0, e]
  have key : ∃ t, loopR (g_body_lies_l1 n b) (len - b.over, b.left, (b.trail.length : Int) - 1) = some t ∧ t = true := by
    refine loop_up (fun k s => s.2.2 = (b.trail.length : Int) - 1 - k ∧ k + 1 ≤ b.trail.length ∧ s.2.1 = (if 0 < k then 0 else b.left) ∧ -(8000 * (k : Int)) - 4000 ≤ s.1 ∧ s.1 ≤ 4000 + 8000 * (k : Int) ∧ s.1 = len - b.over - sumL p (b.trail.drop (b.trail.length - k)) + (if 0 < k then b.left else 0)) b.trail.length ?_ ⟨by simp, by omega, by simp, by simp; omega, by simp; omega, by simp [sumL]⟩
    rintro k ⟨s, q, j⟩ ⟨hj, hk, hq, hs1, hs2, hs3⟩
    simp only at hj hq hs1 hs2 hs3
    have hj' : j = ((b.trail.length - 1 - k : Nat) : Int) := by omega
    subst hj'
    have ht : b.trail[b.trail.length - 1 - k]? = some (b.trail[b.trail.length - 1 - k]'(by omega)) := List.getElem?_eq_getElem _
    obtain ⟨l1, l2, _⟩ := lengthP_le hv.args (b.trail[b.trail.length - 1 - k]'(by omega)).elem
    have hq' : 0 ≤ q ∧ q ≤ 4000 := by rw [hq]; split <;> omega
    by_cases h0 : b.trail.length - 1 - k = 0
    · left
      refine ⟨true, ?_, rfl⟩
      have i0 : idx b.trail 0 = some (b.trail[0]'(by omega)) := by
        show b.trail[0]? = _
        exact List.getElem?_eq_getElem _
      obtain ⟨g1, g2⟩ := hL (b.trail[0]'(by omega)) (List.getElem?_eq_getElem _)
      have hk1 : k = b.trail.length - 1 := by omega
      have hdr : b.trail.length - k = 1 := by omega
      have hif : (0 < k) = (1 < b.trail.length) := by rw [hk1]; exact propext (by omega)
      simp only [hdr, hif] at hs3 hq
      obtain ⟨l3, l4, _⟩ := lengthP_le hv.args (b.trail[0]'(by omega)).elem
      have d0 : decide ((0 : Int) < ((b.trail.length - 1 - k : Nat) : Int)) = false := by simp; omega
      have e5 : wi64 (lengthP p (b.trail[0]'(by omega)).elem - q) = lengthP p (b.trail[0]'(by omega)).elem - q := by rw [wi64_id] <;> omega
      simp only [g_body_lies_l1, d0, cond_false, i0, Option.bind_some, show 1 ≤ s by omega, decide_true, cond_true, net_Kind hn, cbeq, net_Length hn, e5]
      by_cases k4 : kindP p (b.trail[0]'(by omega)).elem = 4
      · simp only [if_pos k4, Option.bind_some, Option.map_some]
      · have g2' : s ≤ lengthP p (b.trail[0]'(by omega)).elem - q := by
          rcases g2 with g2 | g2
          · rw [hq]
            by_cases c : 1 < b.trail.length
            · rw [if_pos c] at g2 hs3 ⊢; rw [if_pos c] at g2; omega
            · rw [if_neg c] at g2 hs3 ⊢; rw [if_neg c] at g2; omega
          · exact absurd g2 k4
        simp only [if_neg k4, g2', decide_true, Option.bind_some, Option.map_some]
    · right
      have d0 : decide ((0 : Int) < ((b.trail.length - 1 - k : Nat) : Int)) = true := by simp; omega
      have e5 : wi64 (lengthP p (b.trail[b.trail.length - 1 - k]'(by omega)).elem - q) = lengthP p (b.trail[b.trail.length - 1 - k]'(by omega)).elem - q := by rw [wi64_id] <;> omega
      have e6 : wi64 (s - (lengthP p (b.trail[b.trail.length - 1 - k]'(by omega)).elem - q)) = s - (lengthP p (b.trail[b.trail.length - 1 - k]'(by omega)).elem - q) := by rw [wi64_id] <;> omega
      have e7 : wi64 (((b.trail.length - 1 - k : Nat) : Int) - 1) = (b.trail.length : Int) - 1 - ((k + 1 : Nat) : Int) := by rw [wi64_id] <;> omega
      refine ⟨by omega, (s - (lengthP p (b.trail[b.trail.length - 1 - k]'(by omega)).elem - q), 0, (b.trail.length : Int) - 1 - ((k + 1 : Nat) : Int)), by simp only [g_body_lies_l1, d0, cond_true, idx_nat, ht, Option.bind_some, net_Length hn, e5, e6, e7], rfl, by omega, by simp, ?_, ?_, ?_⟩
      · simp only; omega
      · simp only; omega
      · simp only
        have hd2 : b.trail.drop (b.trail.length - (k + 1)) = (b.trail[b.trail.length - 1 - k]'(by omega)) :: b.trail.drop (b.trail.length - k) := by
          have e1 : b.trail.length - (k + 1) = b.trail.length - 1 - k := by omega
          rw [e1, List.drop_eq_getElem_cons (by omega)]
          congr 2; omega
        rw [hd2]
        simp only [sumL, show 0 < k + 1 by omega, if_true]
        by_cases hk0 : 0 < k
        · rw [if_pos hk0] at hs3 hq; omega
        · rw [if_neg hk0] at hs3 hq; omega
  obtain ⟨t, ht, rfl⟩ := key
  exact ht

theorem May_ok (hn : NetOf p n) (hv : Valid p) {len : Int} {b : Body} (hb : BodyOK p len b) (hl : b.trail.length ≤ 6000) : g_body_May n len b = some true := by
  have hlen := hb.len
  rcases hb.mode with m | m | m | m
  · obtain ⟨s1, s2, s3⟩ := hb.still (by omega)
    obtain ⟨h, ht, h0, hk⟩ := hb.waits m
    have : b = ⟨1, [h], 0, 0, 0⟩ := by cases b; simp only at m s1 s2 s3 ht; subst m s1 s2 s3 ht; rfl
    rw [this]
    exact May_wait hn hlen h0 hk
  · have hh := hb.heads (.inl m)
    unfold g_body_May
    simp only [show ¬ len < 1 by omega, show ¬ 4000 < len by omega, decide_false, cond_false, Option.bind_some, cbeq, m, show ¬ (2 : Int) = 1 by decide, show ¬ (2 : Int) = 3 by decide, if_false, if_true, trailed_ok hn hh hl, cond_true, goes_ok hn hv hb m hl, lies_ok hn hv hlen hb.over hb.left hh.ne hl (hb.lies (.inl m))]
  · obtain ⟨s1, s2, s3⟩ := hb.still (by omega)
    have ht := hb.home m
    unfold g_body_May g_body_rests
    simp [show ¬ len < 1 by omega, show ¬ 4000 < len by omega, m, ht, s1, s2, s3]
  · obtain ⟨s1, s2, s3⟩ := hb.still (by omega)
    have hh := hb.heads (.inr m)
    have hr : g_body_rests b = some true := by unfold g_body_rests; simp [s1, s2, s3]
    unfold g_body_May
    simp only [show ¬ len < 1 by omega, show ¬ 4000 < len by omega, decide_false, cond_false, Option.bind_some, cbeq, m, show ¬ (4 : Int) = 1 by decide, show ¬ (4 : Int) = 2 by decide, show ¬ (4 : Int) = 3 by decide, if_false, if_true, trailed_ok hn hh hl, cond_true, hr, lies_ok hn hv hlen hb.over hb.left hh.ne hl (hb.lies (.inr m))]

end

/-! ### what becomes of a body may be -/
section
variable {p : Plan}

theorem through_out {ws : List Way} {x o : Int} (h : throughL ws x = some o) : ∃ w ∈ ws, w.out = o := by
  induction ws with
  | nil => cases h
  | cons w r ih =>
    unfold throughL at h
    split at h
    · cases h; exact ⟨w, by simp, rfl⟩
    · obtain ⟨v, hv, he⟩ := ih h
      exact ⟨v, List.mem_cons_of_mem _ hv, he⟩

theorem outs_has {e i : Int} {w : Way} (h : w ∈ outsP p e i) : hasP p ⟨e, w.out⟩ = true := by
  unfold outsP at h
  split at h
  · rename_i hh
    obtain ⟨f1, f2, f3⟩ := hasP_fin hh
    simp only at f1 f2 f3
    have hm : ∀ o : Int, 0 ≤ o → o < endsF (kindP p e) → hasP p ⟨e, o⟩ = true := fun o h0 h1 => by simp [hasP, h0, h1]
    split at h
    · rename_i k; simp at h; subst h
      exact hm _ (by simp only; rw [k] at f3; simp [endsF] at f3; omega) (by simp only; rw [k]; simp [endsF]; omega)
    · split at h
      · rename_i k; simp at h; subst h
        refine hm _ ?_ ?_
        · simp only; repeat' split
          all_goals omega
        · simp only; rw [k]; simp [endsF]; repeat' split
          all_goals omega
      · split at h
        · rename_i k
          split at h
          · simp at h
            rcases h with rfl | rfl
            · exact hm _ (by simp) (by simp only; rw [k]; simp [endsF])
            · exact hm _ (by simp) (by simp only; rw [k]; simp [endsF])
          · simp at h; subst h
            exact hm _ (by simp) (by simp only; rw [k]; simp [endsF])
        · simp at h
  · simp at h

theorem heads_add {tr : List Port} (hh : HeadsOK p tr) {h y : Port} {o : Int} (hl : tr.getLast? = some h) (hn : nextP p h = some y) (hk : kindP p y.elem ≠ 4) {pos : List Int} (hg : goP p pos y = some o) : HeadsOK p (tr ++ [⟨y.elem, o⟩]) := by
  obtain ⟨w, hw, rfl⟩ := through_out hg
  have h1 := hh.ne
  rw [List.getLast?_eq_getElem?] at hl
  refine ⟨by simp, fun i g hi => ?_, fun i g g' hi hi' => ?_⟩
  · rw [List.getElem?_append] at hi
    split at hi
    · obtain ⟨q1, q2⟩ := hh.port i g hi
      exact ⟨q1, fun k => ⟨(q2 k).1, by rw [List.length_append]; simp only [List.length_cons, List.length_nil]; omega⟩⟩
    · have hi0 : i - tr.length = 0 := by
        have := (List.getElem?_eq_some_iff.1 hi).1
        simp at this; omega
      rw [hi0] at hi
      simp at hi; subst hi
      exact ⟨outs_has hw, fun k => absurd k hk⟩
  · have hil : i + 1 < tr.length + 1 := by have := (List.getElem?_eq_some_iff.1 hi').1; simpa using this
    rw [List.getElem?_append_left (by omega)] at hi
    by_cases c : i + 1 < tr.length
    · rw [List.getElem?_append_left c] at hi'
      exact hh.link i g g' hi hi'
    · rw [List.getElem?_append_right (by omega)] at hi'
      have e : i = tr.length - 1 := by omega
      subst e
      rw [hl] at hi; cases hi
      rw [show tr.length - 1 + 1 - tr.length = 0 by omega] at hi'
      simp at hi'; subst hi'
      exact ⟨y, w, hn, rfl, hw, rfl⟩

theorem heads_suffix {pre t : List Port} (hh : HeadsOK p (pre ++ t)) (ht : t ≠ []) : HeadsOK p t := by
  refine ⟨List.length_pos_iff.2 ht, fun i g hi => ?_, fun i g g' hi hi' => ?_⟩
  · obtain ⟨q1, q2⟩ := hh.port (pre.length + i) g (by rw [List.getElem?_append_right (by omega)]; simpa using hi)
    refine ⟨q1, fun k => ?_⟩
    obtain ⟨q3, q4⟩ := q2 k
    have hp : pre = [] := List.length_eq_zero_iff.1 (by omega)
    subst hp
    exact ⟨by omega, by simpa using q4⟩
  · exact hh.link (pre.length + i) g g' (by rw [List.getElem?_append_right (by omega)]; simpa using hi) (by rw [List.getElem?_append_right (by omega), show pre.length + i + 1 - pre.length = i + 1 by omega]; exact hi')

/-- A state on the way. -/
structure OnWay (p : Plan) (ov left : Int) (tr : List Port) : Prop where
  heads : HeadsOK p tr
  kind : ∀ h, tr.getLast? = some h → kindP p h.elem ≠ 4
  gate : 0 < ov → left = 0 ∧ ∀ h, tr.getLast? = some h → ∃ y, nextP p h = some y ∧ kindP p y.elem = 4

theorem last_len (hv : Valid p) {tr : List Port} (hh : HeadsOK p tr) (hk : ∀ h, tr.getLast? = some h → kindP p h.elem ≠ 4) {h : Port} (hl : tr.getLast? = some h) : 1 ≤ lengthP p h.elem := by
  rw [List.getLast?_eq_getElem?] at hl
  obtain ⟨q1, -⟩ := hh.port _ h hl
  obtain ⟨f1, f2, f3⟩ := hasP_fin q1
  obtain ⟨l1, l2, l3⟩ := lengthP_le hv.args h.elem
  refine l3 (hk h (by rw [List.getLast?_eq_getElem?]; exact hl)) fun h0 => ?_
  rw [h0] at f3
  simp [endsF] at f3
  omega

theorem way_valid (hv : Valid p) (pos : List Int) {ov : Int} (hov : 0 ≤ ov) : ∀ (k : Nat) (m left : Int) (tr : List Port), 0 ≤ m → 0 ≤ left → restM m left ≤ k → OnWay p ov left tr → (∀ h, tr.getLast? = some h → left ≤ lengthP p h.elem ∧ (0 < m ∨ left < lengthP p h.elem)) →
    OnWay p (wayF p pos ov k m left tr).2.2.1 (wayF p pos ov k m left tr).2.1 (wayF p pos ov k m left tr).2.2.2 ∧ (∀ h, (wayF p pos ov k m left tr).2.2.2.getLast? = some h → (wayF p pos ov k m left tr).2.1 < lengthP p h.elem) ∧ ((wayF p pos ov k m left tr).1 = 4 → (wayF p pos ov k m left tr).2.1 = 0 ∧ (wayF p pos ov k m left tr).2.2.1 = 0)
  | 0, m, left, tr, hm, hl, hr, hw, hlt => by
    have hm0 : m = 0 := by unfold restM at hr; split at hr <;> omega
    refine ⟨hw, fun h hh => ?_, fun h => by simp [wayF] at h⟩
    have := (hlt h hh).2
    simp only [wayF]
    omega
  | k + 1, m, left, tr, hm, hl, hr, hw, hlt => by
    simp only [wayF]
    split
    · rename_i hml
      refine ⟨⟨hw.heads, hw.kind, fun h0 => ?_⟩, fun h hh => ?_, fun h => by simp at h⟩
      · obtain ⟨g1, g2⟩ := hw.gate h0
        exact ⟨by simp only; omega, g2⟩
      · have := hlt h hh
        simp only
        omega
    · rename_i hml
      cases hlast : tr.getLast? with
      | none =>
        have hnil := List.getLast?_eq_none_iff.1 hlast
        have := hw.heads.ne
        rw [hnil] at this; simp at this
      | some h =>
        simp only
        have hlen := last_len hv hw.heads hw.kind hlast
        cases hnx : nextP p h with
        | none =>
          refine ⟨⟨hw.heads, hw.kind, fun h0 => ?_⟩, fun g hg => ?_, fun h => by simp at h⟩
          · obtain ⟨_, g2⟩ := hw.gate h0
            obtain ⟨y, hy, _⟩ := g2 h hlast
            rw [hnx] at hy; cases hy
          · rw [hlast] at hg; cases hg; simp only; omega
        | some y =>
          simp only
          split
          · rename_i hk
            refine ⟨⟨hw.heads, hw.kind, fun _ => ⟨rfl, fun g hg => ?_⟩⟩, fun g hg => ?_, fun h => by simp at h⟩
            · rw [hlast] at hg; cases hg; exact ⟨y, hnx, hk⟩
            · rw [hlast] at hg; cases hg; simp only; omega
          · rename_i hk
            have hov0 : ov = 0 := by
              by_cases h0 : 0 < ov
              · obtain ⟨_, g2⟩ := hw.gate h0
                obtain ⟨z, hz, hzk⟩ := g2 h hlast
                rw [hnx] at hz; cases hz; exact absurd hzk hk
              · omega
            cases hgo : goP p pos y with
            | none =>
              refine ⟨⟨hw.heads, hw.kind, fun h0 => ?_⟩, fun g hg => ?_, fun _ => ⟨rfl, hov0⟩⟩
              · simp only at h0; omega
              · rw [hlast] at hg; cases hg; simp only; omega
            | some o =>
              obtain ⟨g1, g2⟩ := next_len hv hnx hk
              refine way_valid hv pos hov k (m - left) (lengthP p y.elem) (tr ++ [⟨y.elem, o⟩]) (by omega) (by omega) ?_ ⟨heads_add hw.heads hlast hnx hk hgo, fun g hg => ?_, fun h0 => by omega⟩ fun g hg => ?_
              · unfold restM at hr ⊢; rw [if_neg (by omega)]; split at hr <;> omega
              · rw [List.getLast?_append] at hg; simp at hg; subst hg; exact hk
              · rw [List.getLast?_append] at hg; simp at hg; subst hg; exact ⟨Int.le_refl _, .inl (by omega)⟩

theorem trim_stop (p : Plan) (len c : Int) : ∀ tr : List Port, 1 < (trimF p len c tr).length → ¬ len ≤ c + sumL p ((trimF p len c tr).drop 1)
  | [], h => by simp [trimF] at h
  | [a], h => by simp [trimF] at h
  | a :: g :: r, h => by
    unfold trimF at h ⊢
    split
    · rename_i hq
      rw [if_pos hq] at h
      exact trim_stop p len c (g :: r) h
    · rename_i hq
      simpa using hq

theorem trim_fit (p : Plan) (len c : Int) : ∀ tr : List Port, (len ≤ c + sumL p tr ∨ ∃ h, tr[0]? = some h ∧ kindP p h.elem = 4) → (len ≤ c + sumL p (trimF p len c tr) ∨ ∃ h, (trimF p len c tr)[0]? = some h ∧ kindP p h.elem = 4)
  | [], h => h
  | [a], h => h
  | a :: g :: r, h => by
    unfold trimF
    split
    · rename_i hq
      exact trim_fit p len c (g :: r) (.inl hq)
    · exact h

theorem sumL_cons {tr : List Port} {h : Port} (h0 : tr[0]? = some h) : sumL p tr = lengthP p h.elem + sumL p (tr.drop 1) := by
  cases tr with
  | nil => simp at h0
  | cons a r => simp at h0; subst h0; rfl

/-- What a way ends in may be. -/
theorem fin_valid (hv : Valid p) (pos : List Int) {len ov left m vv : Int} {tr : List Port} (hlen : 1 ≤ len ∧ len ≤ 4000) (ho : 0 ≤ ov ∧ ov ≤ 4000) (hl : 0 ≤ left ∧ left ≤ 4000) (hm : 0 ≤ m ∧ m ≤ 60) (hw : OnWay p ov left tr)
    (hlt : ∀ h, tr.getLast? = some h → left ≤ lengthP p h.elem ∧ (0 < m ∨ left < lengthP p h.elem)) (hfit : len ≤ ov - left + sumL p tr ∨ ∃ h, tr[0]? = some h ∧ kindP p h.elem = 4) (h2 : tr.length ≤ 5100)
    (hvv : (0 ≤ vv ∧ vv ≤ 60) ∧ ((wayF p pos ov 70 m left tr).1 = 4 → vv = 0)) : BodyOK p len (finF p len (wayF p pos ov 70 m left tr) vv) ∧ (finF p len (wayF p pos ov 70 m left tr) vv).trail.length ≤ 6000 := by
  obtain ⟨w1, w2, w3, a, w4, w5, w6⟩ := way_ok hv pos ov 70 m left tr hm.1 hl
  obtain ⟨v1, v2, v3⟩ := way_valid hv pos ho.1 70 m left tr hm.1 hl.1 (by unfold restM; split <;> omega) hw hlt
  generalize wayF p pos ov 70 m left tr = e at *
  unfold finF
  by_cases hh : len ≤ e.2.2.1
  · rw [if_pos hh]
    exact ⟨⟨hlen, .inr (.inr (.inl rfl)), fun _ => ⟨rfl, rfl, rfl⟩, fun h => by simp at h, fun _ => rfl, fun h => by simp at h, by simp, fun h => by simp at h, by simp, by simp, fun h => by simp at h, fun h => by simp at h, fun h => by simp at h⟩, by simp⟩
  · rw [if_neg hh]
    obtain ⟨pre, t1, t2⟩ := trim_suffix p len (e.2.2.1 - e.2.1) e.2.2.2
    have hne : e.2.2.2 ≠ [] := fun h => by have := v1.heads.ne; rw [h] at this; simp at this
    have ht := t2 hne
    have hHeads : HeadsOK p (trimF p len (e.2.2.1 - e.2.1) e.2.2.2) := heads_suffix (by rw [← t1]; exact v1.heads) ht
    have hlast : (trimF p len (e.2.2.1 - e.2.1) e.2.2.2).getLast? = e.2.2.2.getLast? := by
      have h3 : e.2.2.2.getLast? = (pre ++ trimF p len (e.2.2.1 - e.2.1) e.2.2.2).getLast? := by rw [← t1]
      rw [h3, List.getLast?_append]
      cases h : (trimF p len (e.2.2.1 - e.2.1) e.2.2.2).getLast? with
      | none => exact absurd (List.getLast?_eq_none_iff.1 h) ht
      | some x => rfl
    have hfit2 : len ≤ e.2.2.1 - e.2.1 + sumL p e.2.2.2 ∨ ∃ h, e.2.2.2[0]? = some h ∧ kindP p h.elem = 4 := by
      rcases hfit with h | ⟨h, h0, hk⟩
      · left
        rw [w4, sumL_append]; omega
      · right
        refine ⟨h, ?_, hk⟩
        rw [w4, List.getElem?_append_left (by have := hw.heads.ne; omega)]; exact h0
    have hfit3 := trim_fit p len (e.2.2.1 - e.2.1) e.2.2.2 hfit2
    have hstop := trim_stop p len (e.2.2.1 - e.2.1) e.2.2.2
    have htl : (trimF p len (e.2.2.1 - e.2.1) e.2.2.2).length ≤ 6000 := by
      have h3 := congrArg List.length t1
      have h4 := congrArg List.length w4
      simp at h3 h4; omega
    generalize htr : trimF p len (e.2.2.1 - e.2.1) e.2.2.2 = t at *
    have hidx : ∀ h, t[t.length - 1]? = some h → t.getLast? = some h := fun h hq => by rw [List.getLast?_eq_getElem?]; exact hq
    refine ⟨⟨hlen, ?_, fun hm2 => ?_, fun hm1 => ?_, fun hm3 => ?_, fun _ => hHeads, w2, fun _ h hq => ?_, hvv.1, by simp only; omega, fun h0 => ?_, fun _ h hq => ?_, fun _ => by simp only; omega⟩, htl⟩
    · rcases w1 with h | h
      · exact .inr (.inl h)
      · exact .inr (.inr (.inr h))
    · have h4 : e.1 = 4 := by rcases w1 with h | h; exact absurd h hm2; exact h
      exact ⟨(v3 h4).1, (v3 h4).2, hvv.2 h4⟩
    · simp only at hm1; rcases w1 with h | h <;> omega
    · simp only at hm3; rcases w1 with h | h <;> omega
    · exact v2 h (by rw [← hlast]; exact hidx h hq)
    · obtain ⟨g1, g2⟩ := v1.gate h0
      exact ⟨g1, fun h hq => g2 h (by rw [← hlast]; exact hidx h hq)⟩
    · have hq0 : t[0]? = some h := hq
      have hsum := sumL_cons (p := p) hq0
      have hpos := List.length_pos_iff.2 ht
      have e1 : ∀ h1 : ¬ 1 < t.length, sumL p (t.drop 1) = 0 := fun h1 => by
        have : t.drop 1 = [] := List.drop_eq_nil_of_le (by omega)
        rw [this]; rfl
      refine ⟨?_, ?_⟩
      · simp only
        by_cases c : 1 < t.length
        · have := hstop c
          rw [if_pos c]; omega
        · rw [if_neg c, e1 c]; omega
      · simp only
        rcases hfit3 with h3 | ⟨h', h0, hk⟩
        · left
          by_cases c : 1 < t.length
          · rw [if_pos c, if_pos c]; omega
          · rw [if_neg c, if_neg c, e1 c]
            rw [e1 c] at hsum
            omega
        · right
          rw [hq0] at h0; cases h0; exact hk

end

/-- A move goes by the speed within its bounds. -/
theorem Move_held (n : Net) (pos : List Int) (len : Int) (b : Body) (v : Int) : g_body_Move n pos len b v = g_body_Move n pos len b (heldF v 0 60) := by
  have hh : heldF (heldF v 0 60) 0 60 = heldF v 0 60 := held_id (heldF_le (by omega))
  have hl : g_body_Move_l1 n pos b v = g_body_Move_l1 n pos b (heldF v 0 60) := by
    funext s
    simp only [g_body_Move_l1, hold60, hh]
  unfold g_body_Move
  simp only [hold60, hh, hl]

theorem Move_valid {p : Plan} {n : Net} (hn : NetOf p n) (hv : Valid p) (pos : List Int) {len : Int} {b : Body} (hb : BodyOK p len b) (hl : b.trail.length ≤ 5000) (v : Int) : ∃ c, g_body_Move n pos len b v = some c ∧ BodyOK p len c ∧ c.trail.length ≤ 6000 := by
  have hlen := hb.len
  rw [Move_held]
  have hV := heldF_le (x := v) (lo := 0) (hi := 60) (by omega)
  generalize heldF v 0 60 = u at *
  by_cases m2 : b.mode = 2
  · have hh := hb.heads (.inl m2)
    obtain ⟨vv, h1, h2⟩ := Move_run hn hv pos len m2 hb.over hb.left hh.ne (by omega) (v := u) hV
    have hidx : ∀ h, b.trail.getLast? = some h → b.trail[b.trail.length - 1]? = some h := fun h hq => by rw [← List.getLast?_eq_getElem?]; exact hq
    have hkind : ∀ h, b.trail.getLast? = some h → kindP p h.elem ≠ 4 := fun h hq hk => by
      obtain ⟨q1, q2⟩ := (hh.port _ h (hidx h hq)).2 hk
      have := hh.ne; omega
    have ht0 : b.trail[0]? = some (b.trail[0]'(by have := hh.ne; omega)) := List.getElem?_eq_getElem _
    obtain ⟨g1, g2⟩ := hb.lies (.inl m2) _ ht0
    have hfit : len ≤ b.over - b.left + sumL p b.trail ∨ ∃ h, b.trail[0]? = some h ∧ kindP p h.elem = 4 := by
      rcases g2 with g2 | g2
      · left
        rw [sumL_cons ht0]
        by_cases c : 1 < b.trail.length
        · rw [if_pos c, if_pos c] at g2; omega
        · rw [if_neg c, if_neg c] at g2; omega
      · exact .inr ⟨_, ht0, g2⟩
    obtain ⟨k1, k2⟩ := fin_valid hv pos hlen hb.over hb.left hV ⟨hh, hkind, fun h0 => ⟨(hb.overs h0).1, fun h hq => (hb.overs h0).2 h (hidx h hq)⟩⟩
      (fun h hq => by have := hb.lefts (.inl m2) h (hidx h hq); omega) hfit (by omega) h2
    exact ⟨_, h1, k1, k2⟩
  · by_cases m1 : b.mode = 1
    · obtain ⟨h, ht, hf0, hk4⟩ := hb.waits m1
      have hhp : hasP p h = true := by simp [hasP, hf0, hk4, endsF]
      obtain ⟨el, hel, hke⟩ := hasP_idx hhp
      obtain ⟨q1, q2⟩ := idx_at hel
      obtain ⟨z, hz, hzk⟩ := hv.join.gate _ el q1 (by rw [← hke]; exact hk4)
      have hnx : nextP p h = some z := by rw [← hz, ← q2, ← hf0]
      rcases Move_wait hn hv pos hb m1 ht hnx hzk hV with ⟨k1, _⟩ | ⟨c1, o, vv, k0, k1, k2⟩
      · exact ⟨b, k1, hb, by omega⟩
      · obtain ⟨g1, g2⟩ := next_len hv hnx hzk
        have h1 : HeadsOK p [h, ⟨z.elem, o⟩] := by
          obtain ⟨w, hw, rfl⟩ := through_out k0
          refine ⟨by simp, fun i g hi => ?_, fun i g g' hi hi' => ?_⟩
          · match i, hi with
            | 0, hi => simp at hi; subst hi; exact ⟨hhp, fun _ => ⟨rfl, by simp⟩⟩
            | 1, hi => simp at hi; subst hi; exact ⟨outs_has hw, fun k => absurd k hzk⟩
            | i + 2, hi => simp at hi
          · match i, hi, hi' with
            | 0, hi, hi' => simp at hi hi'; subst hi hi'; exact ⟨z, w, hnx, rfl, hw, rfl⟩
            | i + 1, hi, hi' => simp at hi'
        obtain ⟨k3, k4⟩ := fin_valid hv pos (tr := [h, ⟨z.elem, o⟩]) (left := lengthP p z.elem) (ov := 0) hlen (by omega) (by omega) hV ⟨h1, fun g hg => by simp at hg; subst hg; exact hzk, fun h0 => by omega⟩
          (fun g hg => by simp at hg; subst hg; exact ⟨Int.le_refl _, .inl c1⟩) (.inr ⟨h, rfl, hk4⟩) (by simp) k2
        exact ⟨_, k1, k3, k4⟩
    · exact ⟨b, Move_still pos len m1 m2 (by omega) u, hb, by omega⟩

/-! ### the elements in which it lies -/
theorem compact_rise {zs : List Int} (h : zs.Pairwise (· ≤ ·)) : (Lib.compact zs).Pairwise (· < ·) := by
  unfold Lib.compact Lib.compactUpTo
  rw [List.pairwise_map]
  have hget : ∀ j, j < zs.length → zs.toArray[j]! = zs[j]! := fun j hj => by simp [hj]
  have hmono : ∀ i j, i ≤ j → j < zs.length → zs[i]! ≤ zs[j]! := fun i j hij hj => by
    rcases Nat.eq_or_lt_of_le hij with rfl | hlt
    · exact Int.le_refl _
    · have := List.pairwise_iff_getElem.1 h i j (by omega) hj hlt
      simpa [show i < zs.length by omega, hj] using this
  have hr : (List.range zs.length).Pairwise (· < ·) := List.pairwise_lt_range
  have hf := hr.filter (Lib.keeps zs.toArray)
  refine hf.imp_of_mem fun {a b} ha hb hab => ?_
  have ha' := List.mem_range.1 (List.mem_filter.1 ha).1
  have hb' := List.mem_range.1 (List.mem_filter.1 hb).1
  have hk := (List.mem_filter.1 hb).2
  simp only [Lib.keeps, decide_eq_true_eq] at hk
  rw [hget a ha', hget b hb']
  rcases hk with hk | hk
  · omega
  · rw [hget b hb', hget (b - 1) (by omega)] at hk
    have h1 := hmono a (b - 1) (by omega) (by omega)
    have h2 := hmono (b - 1) b (by omega) hb'
    omega

theorem strict_ext : ∀ {a b : List Int}, a.Pairwise (· < ·) → b.Pairwise (· < ·) → (∀ x, x ∈ a ↔ x ∈ b) → a = b
  | [], [], _, _, _ => rfl
  | [], y :: b, _, _, h => by have := (h y).2 (by simp); simp at this
  | x :: a, [], _, _, h => by have := (h x).1 (by simp); simp at this
  | x :: a, y :: b, ha, hb, h => by
    rw [List.pairwise_cons] at ha hb
    have hxy : x = y := by
      have h1 : x ∈ y :: b := (h x).1 (by simp)
      have h2 : y ∈ x :: a := (h y).2 (by simp)
      rcases List.mem_cons.1 h1 with e | h1
      · exact e
      · rcases List.mem_cons.1 h2 with e | h2
        · exact e.symm
        · have := ha.1 y h2; have := hb.1 x h1; omega
    subst hxy
    rw [strict_ext ha.2 hb.2 fun z => ?_]
    constructor
    · intro hz
      rcases List.mem_cons.1 ((h z).1 (List.mem_cons_of_mem _ hz)) with rfl | hz'
      · have := ha.1 z hz; omega
      · exact hz'
    · intro hz
      rcases List.mem_cons.1 ((h z).2 (List.mem_cons_of_mem _ hz)) with rfl | hz'
      · have := hb.1 z hz; omega
      · exact hz'

theorem SameInts_refl (l : List Int) (hl : l.length < 1000000) : g_R6_SameInts l l = some true := by
  unfold g_R6_SameInts
  simp only [bne_self_eq_false, cond_false]
  obtain ⟨b, hb, rfl⟩ := loop_ix (l := l) (step := g_R6_SameInts_l1 l l) (Post := fun b => b = true) (fun _ _ => True) (fun _ => ⟨true, by simp only [g_R6_SameInts_l1, dge, cond_false], rfl⟩)
    (fun i a h _ => .inr ⟨by have := ilt h; simp only [g_R6_SameInts_l1, dlt h, cond_true, idx_nat, h, Option.bind_some, bne_self_eq_false, cond_false, wi64_succ (show i < 1000000000 by omega)], trivial⟩)
  exact hb

theorem BodyMoves_true (p : Plan) (pos : List Int) (len : Int) (b : Body) (v : Int) : g_L23_BodyMoves p pos len b v = some true := by
  unfold g_L23_BodyMoves
  simp only [known23, Option.bind_some, Bool.not_true, cond_false]
  by_cases a1 : (100 : Int) < (pos.length : Int)
  · simp only [a1, decide_true, cond_true, Option.bind_some]
  by_cases a2 : (5000 : Int) < (b.trail.length : Int)
  · simp only [a1, a2, decide_true, decide_false, cond_false, cond_true, Option.bind_some]
  obtain ⟨f, hf, hfine⟩ := fine_total p
  simp only [a1, a2, decide_false, cond_false, hf, Option.bind_some]
  cases f with
  | false => rfl
  | true =>
    have hv := hfine rfl
    obtain ⟨r, hr, hr'⟩ := MayBody_total p hv len b (by omega)
    simp only [Bool.not_true, cond_false, hr, Option.bind_some]
    cases r with
    | false => rfl
    | true =>
      have hb := hr' rfl
      have hl : b.trail.length ≤ 5000 := by omega
      obtain ⟨n, h1, hno⟩ := case_total p pos len b (by omega) hl hf hr
      obtain ⟨c, c1, c2, c3⟩ := Move_valid hno hv pos hb hl v
      obtain ⟨c', ⟨m1, m2⟩, -⟩ := Move_eq hno hv hb hl pos v
      rw [c1] at m1; cases m1
      obtain ⟨w, w1, w2, -⟩ := Whole_eq hno b
      obtain ⟨out, o1, o2, o3⟩ := Lies_sp hno b hl
      obtain ⟨ls, l1, l2, l3, l4⟩ := RLies_sp hv hb hl
      have hls : Lib.compact (isort out) = ls := strict_ext (compact_rise (isort_rise out)) l2 fun x => by
        rw [l4 x, ← o3 x, ← (isort_perm out).mem_iff]
        exact ⟨mem_compact, compact_mem⟩
      rw [hls] at o1
      simp only [Bool.not_true, cond_false, h1, Option.bind_some, optM, c1, w1, w2, m2, SameBody_refl c (by omega), cond_true, May_ok hno hv c2 c3, o1, l1, SameInts_refl ls (by omega)]
      cases hlast : b.trail[b.trail.length - 1]? with
      | none =>
        have hnil : b.trail = [] := List.length_eq_zero_iff.1 (by have := List.getElem?_eq_none_iff.1 hlast; omega)
        have hhead : g_body_Head b = some (⟨0, 0⟩, false) := by unfold g_body_Head; simp [hnil]
        simp [hhead, hnil]
      | some h =>
        have hlt := ilt hlast
        obtain ⟨x, hx, hx'⟩ := last_idx (l := b.trail) (by omega) (by omega)
        rw [hlast] at hx'; cases hx'
        have d : decide ((0 : Int) < (b.trail.length : Int)) = true := by simp; omega
        simp only [Head_eq (show b.trail.length < 1000000 by omega) hlast, Option.bind_some, d, beq_self_eq_true, cond_true, Bool.not_true, cond_false, hx]

end Go.E
