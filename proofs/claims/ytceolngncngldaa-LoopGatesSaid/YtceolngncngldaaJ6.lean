/- Plain Lean: bodies and stock that the document takes; who is forced; speeds. No condition. -/
import Derived.KernelRfl
import Derived.Test.YtceolngncngldaaJ5
set_option linter.unusedVariables false
set_option linter.unusedSimpArgs false
namespace Go.E
open Go

theorem lengthP_le {p : Plan} (ha : ArgsP p) (e : Int) : 0 ≤ lengthP p e ∧ lengthP p e ≤ 4000 ∧ (kindP p e ≠ 4 → kindP p e ≠ 0 → 1 ≤ lengthP p e) := by
  unfold lengthP kindP
  cases h : idx p.elems e with
  | none => simp
  | some a =>
    obtain ⟨h1, _⟩ := idx_at h
    have := ha.elem _ a h1
    simp only [Option.map_some, Option.getD_some]
    by_cases h4 : a.kind = 4
    · rw [this.gate h4]; exact ⟨by omega, by omega, fun h => absurd h4 h⟩
    · obtain ⟨l1, l2⟩ := this.len h4
      exact ⟨by omega, l2, fun _ _ => l1⟩

theorem last_idx {l : List Port} (h : 1 ≤ l.length) (hl : l.length < 1000000) : ∃ x, idx l (wi64 ((l.length : Int) - 1)) = some x ∧ l[l.length - 1]? = some x := by
  have e : wi64 ((l.length : Int) - 1) = ((l.length - 1 : Nat) : Int) := by rw [wi64_id] <;> omega
  refine ⟨l[l.length - 1]'(by omega), ?_, List.getElem?_eq_getElem _⟩
  rw [e, idx_nat]; exact List.getElem?_eq_getElem _

/-- A body that the document takes. -/
structure BodyOK (p : Plan) (len : Int) (b : Body) : Prop where
  len : 1 ≤ len ∧ len ≤ 4000
  mode : b.mode = 1 ∨ b.mode = 2 ∨ b.mode = 3 ∨ b.mode = 4
  still : b.mode ≠ 2 → b.left = 0 ∧ b.over = 0 ∧ b.v = 0
  waits : b.mode = 1 → ∃ h, b.trail = [h] ∧ h.fin = 0 ∧ kindP p h.elem = 4
  home : b.mode = 3 → b.trail = []
  heads : b.mode = 2 ∨ b.mode = 4 → HeadsOK p b.trail
  left : 0 ≤ b.left ∧ b.left ≤ 4000
  lefts : b.mode = 2 ∨ b.mode = 4 → ∀ h, b.trail[b.trail.length - 1]? = some h → b.left < lengthP p h.elem
  v : 0 ≤ b.v ∧ b.v ≤ 60
  over : 0 ≤ b.over ∧ b.over ≤ 4000
  overs : 0 < b.over → b.left = 0 ∧ ∀ h, b.trail[b.trail.length - 1]? = some h → ∃ y, nextP p h = some y ∧ kindP p y.elem = 4

theorem room_total (p : Plan) (ha : ArgsP p) (b : Body) (x : Int) (hl : b.trail.length ≤ 5000) (h1 : 1 ≤ b.trail.length) (hx : 0 ≤ x ∧ x ≤ 4000) (hb : 0 ≤ b.left ∧ b.left ≤ 4000) : ∃ r, loopR (g_R24_MayBody_l1 p b) (x, wi64 ((b.trail.length : Int) - 1)) = some r := by
  have e : wi64 ((b.trail.length : Int) - 1) = (b.trail.length : Int) - 1 := by rw [wi64_id] <;> omega
  obtain ⟨r, hr, _⟩ : ∃ r, loopR (g_R24_MayBody_l1 p b) (x, wi64 ((b.trail.length : Int) - 1)) = some r ∧ True := by
    refine loop_up (fun k s => s.2 = (b.trail.length : Int) - 1 - k ∧ k + 1 ≤ b.trail.length ∧ -(8000 * (k : Int)) ≤ s.1 ∧ s.1 ≤ 4000 + 8000 * (k : Int)) b.trail.length ?_ ⟨by simp [e], by omega, by simp; omega, by simp; omega⟩
    rintro k ⟨s, j⟩ ⟨hj, hk, hs1, hs2⟩
    simp only at hj hs1 hs2
    have hj' : j = ((b.trail.length - 1 - k : Nat) : Int) := by omega
    subst hj'
    have ht : b.trail[b.trail.length - 1 - k]? = some (b.trail[b.trail.length - 1 - k]'(by omega)) := List.getElem?_eq_getElem _
    have hd : decide ((0 : Int) ≤ ((b.trail.length - 1 - k : Nat) : Int)) = true := by simp
    obtain ⟨l1, l2, _⟩ := lengthP_le ha (b.trail[b.trail.length - 1 - k]'(by omega)).elem
    obtain ⟨t, htt, ht1, ht2⟩ : ∃ t : Int, ((bif (((b.trail.length - 1 - k : Nat) : Int) == (wi64 ((b.trail.length : Int) - 1))) then some (wi64 (lengthP p (b.trail[b.trail.length - 1 - k]'(by omega)).elem - b.left)) else some (lengthP p (b.trail[b.trail.length - 1 - k]'(by omega)).elem) : Option Int)) = some t ∧ -4000 ≤ t ∧ t ≤ 4000 := by
      cases (((b.trail.length - 1 - k : Nat) : Int) == (wi64 ((b.trail.length : Int) - 1))) with
      | true => exact ⟨_, rfl, by rw [wi64_id] <;> omega, by rw [wi64_id] <;> omega⟩
      | false => exact ⟨_, rfl, by omega, by omega⟩
    simp only [g_R24_MayBody_l1, hd, cond_true, idx_nat, ht, Option.bind_some, g_R6_Length_eq, htt]
    by_cases h0 : b.trail.length - 1 - k = 0
    · have hz : (((b.trail.length - 1 - k : Nat) : Int) == 0) = true := by rw [beq_iff_eq]; omega
      have i0 : idx b.trail 0 = some (b.trail[0]'(by omega)) := by
        show b.trail[0]? = _
        exact List.getElem?_eq_getElem _
      simp only [hz, cond_true, i0, Option.bind_some, g_R6_Kind_eq]
      left
      by_cases g1 : 1 ≤ s
      · by_cases g2 : s ≤ t
        · exact ⟨true, by simp [g1, g2], trivial⟩
        · exact ⟨kindP p (b.trail[0]'(by omega)).elem == 4, by simp only [g1, g2, decide_true, decide_false, cond_true, cond_false, Option.bind_some], trivial⟩
      · exact ⟨false, by simp [g1], trivial⟩
    · have hz : (((b.trail.length - 1 - k : Nat) : Int) == 0) = false := by rw [beq_eq_false_iff_ne]; omega
      simp only [hz, cond_false]
      have hk5 : k ≤ 5000 := by omega
      refine .inr ⟨by omega, _, rfl, ?_, by omega, ?_, ?_⟩
      · show wi64 (((b.trail.length - 1 - k : Nat) : Int) - 1) = _
        rw [wi64_id] <;> omega
      · show _ ≤ wi64 (s - t)
        rw [wi64_id] <;> omega
      · show wi64 (s - t) ≤ _
        rw [wi64_id] <;> omega
  exact ⟨r, hr⟩

theorem MayBody_total (p : Plan) (hv : Valid p) (len : Int) (b : Body) (hl : b.trail.length ≤ 5000) : ∃ r, g_R24_MayBody p len b = some r ∧ (r = true → BodyOK p len b) := by
  have q2 := hv.few.joins
  unfold g_R24_MayBody
  by_cases h1 : len < 1
  · exact ⟨false, by simp [h1], by simp⟩
  by_cases h2 : 4000 < len
  · exact ⟨false, by simp [h1, h2], by simp⟩
  simp only [h1, h2, decide_false, cond_false, Option.bind_some]
  obtain ⟨st, hst, hst'⟩ : ∃ st : Bool, ((bif (b.left == 0) then bif (b.over == 0) then some (b.v == 0) else some false else some false : Option (Bool))) = some st ∧ (st = true → b.left = 0 ∧ b.over = 0 ∧ b.v = 0) := by
    cases e1 : b.left == 0 with
    | false => exact ⟨false, rfl, by simp⟩
    | true =>
      cases e2 : b.over == 0 with
      | false => exact ⟨false, rfl, by simp⟩
      | true => exact ⟨b.v == 0, rfl, fun e3 => ⟨by simpa using e1, by simpa using e2, by simpa using e3⟩⟩
  rw [hst]
  simp only [Option.bind_some, cbeq]
  by_cases m1 : b.mode = 1
  · rw [if_pos m1]
    cases st with
    | false => exact ⟨false, rfl, by simp⟩
    | true =>
      obtain ⟨s1, s2, s3⟩ := hst' rfl
      match ht : b.trail with
      | [] => exact ⟨false, by simp [seqR], by simp⟩
      | a :: c :: r =>
        have e : ¬ (((a :: c :: r).length : Int) = 1) := by simp only [List.length_cons]; omega
        exact ⟨false, by simp only [if_neg e]; rfl, by simp⟩
      | [h] =>
        have i0 : idx [h] 0 = some h := rfl
        by_cases f0 : h.fin = 0
        · refine ⟨kindP p h.elem == 4, by simp [seqR, i0, f0, g_R6_Kind_eq], fun hk => ?_⟩
          have hk : kindP p h.elem = 4 := by simpa using hk
          refine ⟨by omega, .inl m1, fun _ => ⟨s1, s2, s3⟩, fun _ => ⟨h, ht, f0, hk⟩, fun h => by omega, fun h => by omega, by omega, fun h => by omega, by omega, by omega, fun h => by omega⟩
        · exact ⟨false, by simp [seqR, i0, f0], by simp⟩
  · rw [if_neg m1]
    by_cases m3 : b.mode = 3
    · rw [if_pos m3]
      cases st with
      | false => exact ⟨false, rfl, by simp⟩
      | true =>
        obtain ⟨s1, s2, s3⟩ := hst' rfl
        refine ⟨(b.trail.length : Int) == 0, rfl, fun h0 => ?_⟩
        have h0 : b.trail = [] := by
          have : (b.trail.length : Int) = 0 := by simpa using h0
          exact List.length_eq_zero_iff.1 (by omega)
        exact ⟨by omega, .inr (.inr (.inl m3)), fun _ => ⟨s1, s2, s3⟩, fun h => by omega, fun _ => h0, fun h => by omega, by omega, fun h => by omega, by omega, by omega, fun h => by omega⟩
    · rw [if_neg m3]
      by_cases hm : b.mode = 2 ∨ (b.mode = 4 ∧ st = true)
      · have hseq : ((if b.mode = 4 then bif (!st) then some (.inr false) else some (.inl ()) else if b.mode = 2 then some (.inl ()) else some (.inr false)) : Option (Unit ⊕ Bool)) = some (.inl ()) := by
          rcases hm with h | ⟨h, rfl⟩
          · simp [h]
          · simp [h]
        rw [hseq]
        simp only [seqR]
        obtain ⟨c, hc, hc'⟩ := chained_total p hv.few b.trail hl
        simp only [hc, Option.bind_some]
        cases c with
        | false => exact ⟨false, rfl, by simp⟩
        | true =>
          have hh := hc' rfl
          obtain ⟨x, hx, hx'⟩ := last_idx hh.ne (by omega)
          obtain ⟨l1, l2, _⟩ := lengthP_le hv.args x.elem
          simp only [Bool.not_true, cond_false, hx, Option.bind_some, g_R6_Length_eq, g_R6_Kind_eq, g_R6_Next_eq p (show p.joins.length < 1000000 by omega)]
          by_cases g1 : b.left < 0
          · exact ⟨false, by simp [g1], by simp⟩
          by_cases g2 : lengthP p x.elem ≤ b.left
          · exact ⟨false, by simp [g1, g2], by simp⟩
          by_cases g3 : b.v < 0
          · exact ⟨false, by simp [g1, g2, g3], by simp⟩
          by_cases g4 : 60 < b.v
          · exact ⟨false, by simp [g1, g2, g3, g4], by simp⟩
          by_cases g5 : b.over < 0
          · exact ⟨false, by simp [g1, g2, g3, g4, g5], by simp⟩
          by_cases g6 : len ≤ b.over
          · exact ⟨false, by simp [g1, g2, g3, g4, g5, g6], by simp⟩
          simp only [g1, g2, g3, g4, g5, g6, decide_false, cond_false, Option.bind_some]
          obtain ⟨t, ht, ht'⟩ : ∃ t : Bool, ((bif decide (0 < b.over) then bif decide (0 < b.left) then some true else bif (!(nextP p x).isSome) then some true else some (kindP p ((nextP p x).getD ⟨0, 0⟩).elem != 4) else some false : Option (Bool))) = some t ∧
              (t = false → 0 < b.over → b.left = 0 ∧ ∃ y, nextP p x = some y ∧ kindP p y.elem = 4) := by
            by_cases o : 0 < b.over
            · by_cases l : 0 < b.left
              · exact ⟨true, by simp [o, l], by simp⟩
              · cases hn : nextP p x with
                | none => exact ⟨true, by simp [o, l], by simp⟩
                | some y => exact ⟨kindP p y.elem != 4, by simp [o, l], fun h _ => ⟨by omega, y, rfl, by simpa using h⟩⟩
            · exact ⟨false, by simp [o], fun _ h => absurd h o⟩
          simp only [ht, Option.bind_some]
          cases t with
          | true => exact ⟨false, rfl, by simp⟩
          | false =>
            have hw : wi64 (len - b.over) = len - b.over := by rw [wi64_id] <;> omega
            obtain ⟨r, hr⟩ := room_total p hv.args b (len - b.over) hl hh.ne (by omega) (by omega)
            refine ⟨r, by rw [hw, cond_false, hr], fun _ => ?_⟩
            have hm' : b.mode = 2 ∨ b.mode = 4 := by rcases hm with h | ⟨h, _⟩; exact .inl h; exact .inr h
            refine ⟨by omega, ?_, fun h => ?_, fun h => by omega, fun h => by omega, fun _ => hh, by omega, fun _ z hz => ?_, by omega, by omega, fun ho => ⟨(ht' rfl ho).1, fun z hz => ?_⟩⟩
            · rcases hm' with h | h
              · exact .inr (.inl h)
              · exact .inr (.inr (.inr h))
            · rcases hm with h' | ⟨_, h'⟩
              · exact absurd h' h
              · exact hst' h'
            · rw [hx'] at hz; cases hz; omega
            · rw [hx'] at hz; cases hz; exact (ht' rfl ho).2
      · have hseq : ((if b.mode = 4 then bif (!st) then some (.inr false) else some (.inl ()) else if b.mode = 2 then some (.inl ()) else some (.inr false)) : Option (Unit ⊕ Bool)) = some (.inr false) := by
          by_cases m4 : b.mode = 4
          · cases st with
            | false => simp [m4]
            | true => exact absurd (.inr ⟨m4, rfl⟩) hm
          · have m2 : ¬ b.mode = 2 := fun h => hm (.inl h)
            simp [m4, m2]
        rw [hseq]
        exact ⟨false, rfl, by simp⟩

end Go.E
/- Plain Lean: who is forced, and speeds: the program's and the document's are one. No condition. -/
namespace Go.E
open Go

structure StockOK (s : Stock) : Prop where
  len : 1 ≤ s.len ∧ s.len ≤ 4000
  top : 1 ≤ s.top ∧ s.top ≤ 60
  acc : 1 ≤ s.acc ∧ s.acc ≤ 10
  brake : 1 ≤ s.brake ∧ s.brake ≤ 10

/-- The name's check answers of every text. -/
theorem Name_answers (s : ByteArray) (hs : s.size ≤ 9223372036854775807) : ∃ b, g_R6_Name s = some b := by
  have blt : ∀ (j : Nat) c, s[j]? = some c → j < s.size := fun j c hc => by
    by_cases h : j < s.size
    · exact h
    · rw [getElem?_neg s j h] at hc; cases hc
  unfold g_R6_Name
  obtain ⟨b, hb, _⟩ : ∃ b, loopR (g_R6_Name_l1 s) ((0 : Nat) : Int) = some b ∧ True := by
    refine loop_bytes (s := s) (fun _ _ => True) 0 (Nat.zero_le _) (fun _ => ?_) (fun i c _ hc => ?_)
    · have : decide ((s.size : Int) < s.size) = false := by simp
      simp only [g_R6_Name_l1, this, cond_false]
      by_cases h1 : (1 : Int) ≤ s.size
      · exact ⟨decide ((s.size : Int) ≤ 8), by simp [h1], trivial⟩
      · exact ⟨false, by simp [h1], trivial⟩
    · have hlt := blt i c hc
      have : decide ((i : Int) < s.size) = true := by simpa using hlt
      have hx : idxS s (i : Int) = some c := hc
      have hw : wi64 ((i : Int) + 1) = ((i + 1 : Nat) : Int) := by rw [wi64_id] <;> omega
      simp only [g_R6_Name_l1, this, cond_true, hx, Option.bind_some, hw]
      have hl : ((bif decide (97 ≤ (c.toNat : Int)) then bif decide ((c.toNat : Int) ≤ 122) then some true else bif decide (65 ≤ (c.toNat : Int)) then some (decide ((c.toNat : Int) ≤ 90)) else some false else bif decide (65 ≤ (c.toNat : Int)) then some (decide ((c.toNat : Int) ≤ 90)) else some false : Option Bool)) = some (letterF c) := by
        unfold letterF
        cases decide (97 ≤ (c.toNat : Int)) <;> cases decide ((c.toNat : Int) ≤ 122) <;> cases decide (65 ≤ (c.toNat : Int)) <;> cases decide ((c.toNat : Int) ≤ 90) <;> rfl
      rw [hl]
      simp only [Option.bind_some]
      cases letterF c with
      | true => exact .inr ⟨rfl, trivial⟩
      | false =>
        simp only [Bool.not_false, cond_true]
        cases ((i : Int) == 0) with
        | true => exact .inl ⟨false, rfl, trivial⟩
        | false =>
          cases decide ((c.toNat : Int) < 48) with
          | true => exact .inl ⟨false, rfl, trivial⟩
          | false =>
            cases hd : decide ((57 : Int) < (c.toNat : Int)) with
            | true => exact .inl ⟨false, rfl, trivial⟩
            | false => exact .inr ⟨rfl, trivial⟩
  exact ⟨b, hb⟩

theorem g_R24_within_eq (x lo hi : Int) : g_R24_within x lo hi = some (decide (lo ≤ x) && decide (x ≤ hi)) := g_R6_within_eq x lo hi

theorem May_total (s : Stock) (hs : s.name.size ≤ 9223372036854775807) : ∃ b, g_R24_May s = some b ∧ (b = true → StockOK s) := by
  obtain ⟨b, hb⟩ := Name_answers s.name hs
  unfold g_R24_May
  simp only [hb, g_R24_within_eq, Option.bind_some]
  cases b with
  | false => exact ⟨false, rfl, by simp⟩
  | true =>
    by_cases a1 : 1 ≤ s.len ∧ s.len ≤ 4000
    · by_cases a2 : 1 ≤ s.top ∧ s.top ≤ 60
      · by_cases a3 : 1 ≤ s.acc ∧ s.acc ≤ 10
        · by_cases a4 : 1 ≤ s.brake ∧ s.brake ≤ 10
          · exact ⟨true, by simp [a1, a2, a3, a4], fun _ => ⟨a1, a2, a3, a4⟩⟩
          · have : (decide (1 ≤ s.brake) && decide (s.brake ≤ 10)) = false := by simpa using a4
            exact ⟨false, by simp [a1, a2, a3, this], by simp⟩
        · have : (decide (1 ≤ s.acc) && decide (s.acc ≤ 10)) = false := by simpa using a3
          exact ⟨false, by simp [a1, a2, this], by simp⟩
      · have : (decide (1 ≤ s.top) && decide (s.top ≤ 60)) = false := by simpa using a2
        exact ⟨false, by simp [a1, this], by simp⟩
    · have : (decide (1 ≤ s.len) && decide (s.len ≤ 4000)) = false := by simpa using a1
      exact ⟨false, by simp [this], by simp⟩

/-! ### speeds -/
def heldF (x lo hi : Int) : Int := if hi < x then (if lo < hi then hi else lo) else if lo < x then x else lo

theorem pace_held_eq (x lo hi : Int) : g_pace_held x lo hi = some (heldF x lo hi) := by
  unfold g_pace_held heldF
  congr 1
  repeat' split
  all_goals omega

theorem R24_hold_eq {x lo hi : Int} (h : lo ≤ hi) : g_R24_hold x lo hi = some (heldF x lo hi) := by
  unfold g_R24_hold heldF
  congr 1
  repeat' split
  all_goals omega

theorem heldF_le {x lo hi : Int} (h : lo ≤ hi) : lo ≤ heldF x lo hi ∧ heldF x lo hi ≤ hi := by
  unfold heldF
  repeat' split
  all_goals omega

/-- A speed one tick later. -/
def speedF (s : Stock) (v want : Int) (forced : Bool) : Int := heldF (heldF v 0 s.top + (if forced then -s.brake else heldF want (-s.brake) s.acc)) 0 s.top

theorem speedF_le {s : Stock} (h : StockOK s) (v want : Int) (f : Bool) : 0 ≤ speedF s v want f ∧ speedF s v want f ≤ s.top := heldF_le (by have := h.top; omega)

theorem wneg {n : Int} (h : 1 ≤ n ∧ n ≤ 10) : wi64 (0 - n) = -n := by rw [wi64_id] <;> omega

theorem pace_Next_eq {s : Stock} (h : StockOK s) (v want : Int) (f : Bool) : g_pace_Next s v want f = some (speedF s v want f) := by
  have h1 := h.top; have h2 := h.acc; have h3 := h.brake
  have e1 : (s.top == heldF s.top 1 60) = true := by rw [beq_iff_eq]; unfold heldF; repeat' split; all_goals omega
  have e2 : (s.acc == heldF s.acc 1 10) = true := by rw [beq_iff_eq]; unfold heldF; repeat' split; all_goals omega
  have e3 : (s.brake == heldF s.brake 1 10) = true := by rw [beq_iff_eq]; unfold heldF; repeat' split; all_goals omega
  have hm : g_pace_may s = some true := by
    unfold g_pace_may
    simp only [pace_held_eq, Option.bind_some, e1, e2, e3, cond_true]
  unfold g_pace_Next speedF
  have g1 := heldF_le (x := v) (lo := 0) (hi := s.top) (by omega)
  have g2 := heldF_le (x := want) (lo := -s.brake) (hi := s.acc) (by omega)
  simp only [hm, Option.bind_some, Bool.not_true, cond_false, pace_held_eq, wneg h3]
  cases f with
  | true => simp only [cond_true, Option.bind_some, if_true]; rw [wi64_id] <;> omega
  | false => simp only [cond_false, Option.bind_some, if_false, Bool.false_eq_true]; rw [wi64_id] <;> omega

theorem R24_Next_eq {s : Stock} (h : StockOK s) (v want : Int) (f : Bool) : g_R24_Next s v want f = some (speedF s v want f) := by
  have h1 := h.top; have h2 := h.acc; have h3 := h.brake
  unfold g_R24_Next speedF
  have g1 := heldF_le (x := v) (lo := 0) (hi := s.top) (by omega)
  have g2 := heldF_le (x := want) (lo := -s.brake) (hi := s.acc) (by omega)
  simp only [wneg h3, R24_hold_eq (show -s.brake ≤ s.acc by omega), R24_hold_eq (show 0 ≤ s.top by omega), Option.bind_some]
  cases f with
  | true => simp only [cond_true, Option.bind_some, if_true]; rw [wi64_id] <;> omega
  | false => simp only [cond_false, Option.bind_some, if_false, Bool.false_eq_true]; rw [wi64_id] <;> omega

end Go.E
/- Plain Lean: who is forced: the program and the document say one thing. No condition. -/
namespace Go.E
open Go

def passesF (x : Int) : Bool := decide (x = 1) || decide (x = 2)

theorem lamp_eq (x : Int) : g_lamp_Passes x = some (passesF x) := by
  unfold g_lamp_Passes passesF
  simp only [cbeq]
  by_cases h : x = 1
  · simp [h]
  · by_cases h2 : x = 2
    · simp [h, h2]
    · have : (x == 2) = false := beq_eq_false_iff_ne.2 h2
      simp [h, h2, this]

/-- Whether a signal's lamp lets nobody pass. -/
def shutF (lamps : List Int) (s : Int) : Bool := match idx lamps s with
  | some x => !passesF x
  | none => true

theorem loop_shut_eq (lamps : List Int) (s : Int) : g_loop_shut lamps s = some (shutF lamps s) := by
  unfold g_loop_shut shutF
  by_cases h1 : s < 0
  · simp [h1, idx_none (.inl h1)]
  · by_cases h2 : (lamps.length : Int) ≤ s
    · simp [h1, h2, idx_none (.inr h2)]
    · obtain ⟨a, ha⟩ := idx_of (l := lamps) (n := s) (by omega) (by omega)
      simp [h1, h2, ha, lamp_eq]

theorem R24_passes_eq (lamps : List Int) (s : Int) (hs : 0 ≤ s) : g_R24_passes lamps s = some (!shutF lamps s) := by
  unfold g_R24_passes shutF
  by_cases h2 : s < (lamps.length : Int)
  · obtain ⟨a, ha⟩ := idx_of (l := lamps) (n := s) hs h2
    simp only [h2, decide_true, cond_true, ha, Option.bind_some, cbeq, passesF]
    by_cases h : a = 1
    · simp [h]
    · by_cases h2 : a = 2
      · simp [h, h2]
      · have : (a == 2) = false := beq_eq_false_iff_ne.2 h2
        simp [h, h2, this]
  · simp [h2, idx_none (.inr (show (lamps.length : Int) ≤ s by omega))]

theorem Head_eq {b : Body} {h : Port} (hl : b.trail.length < 1000000) (hb : b.trail[b.trail.length - 1]? = some h) : g_body_Head b = some (h, true) := by
  have hlt := ilt hb
  obtain ⟨x, hx, hx'⟩ := last_idx (l := b.trail) (by omega) hl
  rw [hb] at hx'; cases hx'
  have : ((b.trail.length : Int) == 0) = false := by rw [beq_eq_false_iff_ne]; omega
  unfold g_body_Head
  simp only [this, cond_false, hx, Option.bind_some]

/-- Whether a train must brake. -/
def forcedF (p : Plan) (lamps : List Int) (b : Body) (first : Bool) : Bool := match b.trail[b.trail.length - 1]? with
  | none => false
  | some h => if b.mode = 1 then !first || shutF lamps (readsP p h)
    else if b.mode = 2 ∧ b.over = 0 ∧ 0 ≤ readsP p h ∧ b.left ≤ p.margin then shutF lamps (readsP p h) else false

theorem inLoop_eq {p : Plan} {n : Net} (hn : NetOf p n) (hf : FewP p) (h : Port) (l : Int) : g_sight_InLoop n h l = some (decide (0 ≤ readsP p h ∧ 0 ≤ l ∧ l ≤ p.margin)) := by
  unfold g_sight_InLoop
  simp only [net_Reads hn, Option.bind_some, net_Plan hn hf]
  by_cases h1 : 0 ≤ readsP p h <;> by_cases h2 : 0 ≤ l <;> by_cases h3 : l ≤ p.margin <;> simp [h1, h2, h3]

theorem R6_InLoop_eq {p : Plan} (hf : FewP p) (h : Port) (l : Int) : g_R6_InLoop p h l = some (decide (0 ≤ readsP p h ∧ 0 ≤ l ∧ l ≤ p.margin)) := by
  have := hf.signals
  unfold g_R6_InLoop
  simp only [g_R6_Reads_eq p (show p.signals.length < 1000000 by omega), Option.bind_some]
  by_cases h1 : 0 ≤ readsP p h <;> by_cases h2 : 0 ≤ l <;> by_cases h3 : l ≤ p.margin <;> simp [h1, h2, h3]

theorem gate_reads {p : Plan} (hv : Valid p) {h : Port} (h0 : h.fin = 0) (hk : kindP p h.elem = 4) : 0 ≤ readsP p h := by
  have hh : hasP p h = true := by simp [hasP, h0, hk, endsF]
  obtain ⟨e, he, hke⟩ := hasP_idx hh
  obtain ⟨h1, h2⟩ := idx_at he
  have := hv.sig.gate _ e h1 (by rw [← hke]; exact hk)
  rw [← h2] at this
  cases h with
  | mk a b => simp only at h0; subst h0; exact this

theorem loop_inside_eq {p : Plan} {n : Net} (hn : NetOf p n) (hv : Valid p) {b : Body} (hl : b.trail.length < 1000000) {h : Port} (hb : b.trail[b.trail.length - 1]? = some h) (h0 : 0 ≤ b.left) :
    g_loop_inside n b = some (if b.mode = 2 ∧ b.over = 0 ∧ 0 ≤ readsP p h ∧ b.left ≤ p.margin then readsP p h else -1) := by
  unfold g_loop_inside
  simp only [Head_eq hl hb, Option.bind_some, Bool.not_true, cond_false, cbne, inLoop_eq hn hv.few, net_Reads hn]
  by_cases m : b.mode = 2
  · by_cases o : b.over = 0
    · by_cases r : 0 ≤ readsP p h
      · by_cases g : b.left ≤ p.margin
        · simp [m, o, r, g, h0]
        · simp [m, o, r, g]
      · simp [m, o, r]
    · simp [m, o]
  · simp [m]

theorem loop_Forced_eq {p : Plan} {n : Net} (hn : NetOf p n) (hv : Valid p) {len : Int} {b : Body} (hb : BodyOK p len b) (hl : b.trail.length < 1000000) (lamps : List Int) (first : Bool) :
    g_loop_Forced n lamps b first = some (forcedF p lamps b first) := by
  unfold g_loop_Forced forcedF
  simp only [cbeq]
  by_cases m1 : b.mode = 1
  · obtain ⟨h, ht, h0, hk⟩ := hb.waits m1
    have hlast : b.trail[b.trail.length - 1]? = some h := by rw [ht]; rfl
    simp only [if_pos m1, hlast, Head_eq hl hlast, Option.bind_some, net_Reads hn, loop_shut_eq]
    cases first <;> simp
  · simp only [if_neg m1]
    cases hlast : b.trail[b.trail.length - 1]? with
    | none =>
      have hnil : b.trail = [] := by
        have := List.getElem?_eq_none_iff.1 hlast
        exact List.length_eq_zero_iff.1 (by omega)
      have hi : g_loop_inside n b = some (-1) := by
        unfold g_loop_inside g_body_Head
        simp [hnil]
      simp [hi]
    | some h =>
      simp only [loop_inside_eq hn hv hl hlast hb.left.1, Option.bind_some, loop_shut_eq]
      by_cases c : b.mode = 2 ∧ b.over = 0 ∧ 0 ≤ readsP p h ∧ b.left ≤ p.margin
      · have := c.2.2.1
        simp only [if_pos c]
        simp only [this, decide_true, cond_true]; rfl
      · simp only [if_neg c, show ¬ (0 : Int) ≤ -1 by omega, decide_false, cond_false]; rfl

theorem R24_Forced_eq {p : Plan} (hv : Valid p) {len : Int} {b : Body} (hb : BodyOK p len b) (hl : b.trail.length < 1000000) (lamps : List Int) (first : Bool) :
    g_R24_Forced p lamps b first = some (forcedF p lamps b first) := by
  have hs := hv.few.signals; have hm := hv.args.margin
  unfold g_R24_Forced forcedF
  simp only [cbne, cbeq]
  by_cases m1 : b.mode = 1
  · obtain ⟨h, ht, h0, hk⟩ := hb.waits m1
    have hlast : b.trail[b.trail.length - 1]? = some h := by rw [ht]; rfl
    obtain ⟨x, hx, hx'⟩ := last_idx (l := b.trail) (by rw [ht]; simp) hl
    rw [hlast] at hx'; cases hx'
    have hr := gate_reads hv h0 hk
    have s1 := (hb.still (by omega)).1
    have hil : decide (0 ≤ readsP p h ∧ 0 ≤ b.left ∧ b.left ≤ p.margin) = true := by simp; omega
    simp only [if_pos m1, hlast, hx, Option.bind_some, cond_false, R6_InLoop_eq hv.few, hil, cond_true, g_R6_Reads_eq p (show p.signals.length < 1000000 by omega), R24_passes_eq _ _ hr]
    cases first <;> simp
  · simp only [if_neg m1]
    by_cases m2 : b.mode = 2
    · have hh := hb.heads (.inl m2)
      obtain ⟨x, hx, hx'⟩ := last_idx (l := b.trail) hh.ne hl
      simp only [if_pos m2, hx', hx, Option.bind_some, cond_false]
      by_cases o : 0 < b.over
      · have : ¬ b.over = 0 := by omega
        simp [o, this]
      · have o' : b.over = 0 := by have := hb.over.1; omega
        have hod : decide (0 < b.over) = false := by simp; omega
        simp only [hod, cond_false, R6_InLoop_eq hv.few, Option.bind_some, g_R6_Reads_eq p (show p.signals.length < 1000000 by omega)]
        by_cases c : 0 ≤ readsP p x ∧ 0 ≤ b.left ∧ b.left ≤ p.margin
        · have c' : b.mode = 2 ∧ b.over = 0 ∧ 0 ≤ readsP p x ∧ b.left ≤ p.margin := ⟨m2, o', c.1, c.2.2⟩
          simp only [decide_eq_true c, cond_true, R24_passes_eq _ _ c.1, Option.bind_some, Bool.not_not]
          have c'' : True ∧ b.over = 0 ∧ 0 ≤ readsP p x ∧ b.left ≤ p.margin := ⟨trivial, c'.2⟩
          simp [o', c.1, c.2.2, m2]
        · have hcd : decide (0 ≤ readsP p x ∧ 0 ≤ b.left ∧ b.left ≤ p.margin) = false := decide_eq_false c
          have c' : ¬ (b.mode = 2 ∧ b.over = 0 ∧ 0 ≤ readsP p x ∧ b.left ≤ p.margin) := fun h => c ⟨h.2.2.1, hb.left.1, h.2.2.2⟩
          simp only [hcd, cond_false, Option.bind_some]
          rw [if_neg c']
    · simp only [if_neg m2, cond_true, Option.bind_some]
      cases hlast : b.trail[b.trail.length - 1]? with
      | none => rfl
      | some h =>
        have c' : ¬ (b.mode = 2 ∧ b.over = 0 ∧ 0 ≤ readsP p h ∧ b.left ≤ p.margin) := fun h => m2 h.1
        simp only []
        rw [if_neg c']

end Go.E
/- Plain Lean: what becomes of a running body: the program and the document go in step. No condition. -/
namespace Go.E
open Go

/-- Two loops in step. -/
theorem loop_two {σ τ α β : Type} {f : σ → Option (σ ⊕ α)} {g : τ → Option (τ ⊕ β)} {Post : α → β → Prop} (R : Nat → σ → τ → Prop) (n : Nat)
    (h : ∀ k s t, R k s t → (∃ a b, f s = some (.inr a) ∧ g t = some (.inr b) ∧ Post a b) ∨ (k < n ∧ ∃ s' t', f s = some (.inl s') ∧ g t = some (.inl t') ∧ R (k + 1) s' t')) {s : σ} {t : τ} (h0 : R 0 s t) :
    ∃ a b, loopR f s = some a ∧ loopR g t = some b ∧ Post a b := by
  have key : ∀ m k s t, n - k ≤ m → R k s t → ∃ a b, loopR f s = some a ∧ loopR g t = some b ∧ Post a b := by
    intro m
    induction m with
    | zero =>
      intro k s t hm hR
      rcases h k s t hR with ⟨a, b, h1, h2, h3⟩ | ⟨h1, _⟩
      · exact ⟨a, b, loopR_inr h1, loopR_inr h2, h3⟩
      · omega
    | succ m ih =>
      intro k s t hm hR
      rcases h k s t hR with ⟨a, b, h1, h2, h3⟩ | ⟨h1, s', t', h2, h3, h4⟩
      · exact ⟨a, b, loopR_inr h1, loopR_inr h2, h3⟩
      · rw [loopR_inl h2, loopR_inl h3]
        exact ih (k + 1) s' t' (by omega) h4
  exact key n 0 s t (by omega) h0

theorem hold60 (x : Int) : (if (if 60 < x then 60 else x) > 0 then (if 60 < x then 60 else x) else 0) = heldF x 0 60 := by
  unfold heldF
  repeat' split
  all_goals omega

theorem step_held {m l : Int} (hm : 0 < m) (hl : 0 ≤ l) : (if (if l < m then l else m) > 0 then (if l < m then l else m) else 0) = if m ≤ l then m else l := by
  repeat' split
  all_goals omega

/-- The lie of the points under a head, as either reads it. -/
theorem R6_Lies_eq (pos : List Int) (e : Int) : g_R6_Lies pos e = some (match idx pos e with
    | some x => if x = 1 ∨ x = 2 then x else 0
    | none => 0) := by
  unfold g_R6_Lies
  by_cases h1 : e < 0
  · simp [h1, idx_none (.inl h1)]
  · by_cases h2 : (pos.length : Int) ≤ e
    · simp [h1, h2, idx_none (.inr h2)]
    · obtain ⟨a, ha⟩ := idx_of (l := pos) (n := e) (by omega) (by omega)
      simp only [h1, h2, decide_false, cond_false, ha, Option.bind_some, cbne]
      by_cases c1 : a = 1
      · simp [c1]
      · by_cases c2 : a = 2
        · simp [c2]
        · have : (a != 2) = true := bne_iff_ne.2 c2
          simp [c1, c2, this]

theorem outsP_pos {p : Plan} {e i : Int} {w : Way} (h : w ∈ outsP p e i) : w.pos = 0 ∨ w.pos = 1 ∨ w.pos = 2 := by
  unfold outsP at h
  split at h
  · rename_i hh
    obtain ⟨f1, f2, f3⟩ := hasP_fin hh
    simp only at f1 f2 f3
    split at h
    · simp at h; subst h; exact .inl rfl
    · split at h
      · simp at h; subst h; exact .inl rfl
      · split at h
        · rename_i k2
          split at h
          · simp at h; rcases h with rfl | rfl
            · exact .inr (.inl rfl)
            · exact .inr (.inr rfl)
          · rename_i hi
            rw [k2] at f3
            simp [endsF] at f3
            simp at h; subst h
            simp only
            omega
        · simp at h
  · simp at h

theorem throughL_pos {ws : List Way} (h : ∀ w ∈ ws, w.pos = 0 ∨ w.pos = 1 ∨ w.pos = 2) {x y : Int} (hx : ¬ (x = 1 ∨ x = 2)) (hy : ¬ (y = 1 ∨ y = 2)) : throughL ws x = throughL ws y := by
  induction ws with
  | nil => rfl
  | cons w r ih =>
    simp only [throughL]
    have hw := h w (by simp)
    have ihr := ih fun v hv => h v (List.mem_cons_of_mem _ hv)
    by_cases h0 : w.pos = 0
    · simp [h0]
    · have h1 : ¬ w.pos = x := fun e => hx (by omega)
      have h2 : ¬ w.pos = y := fun e => hy (by omega)
      simp [h0, h1, h2, ihr]

/-- The way through an element under some positions. -/
def goP (p : Plan) (pos : List Int) (y : Port) : Option Int := throughP p y.elem y.fin ((idx pos y.elem).getD 0)

theorem go_lies (p : Plan) (pos : List Int) (y : Port) : throughP p y.elem y.fin (match idx pos y.elem with
    | some x => if x = 1 ∨ x = 2 then x else 0
    | none => 0) = goP p pos y := by
  unfold goP
  cases h : idx pos y.elem with
  | none => rfl
  | some x =>
    simp only [Option.getD_some]
    by_cases c : x = 1 ∨ x = 2
    · rw [if_pos c]
    · rw [if_neg c]
      exact throughL_pos (fun w hw => outsP_pos hw) (by omega) c

theorem prog_pos {p : Plan} {pos : List Int} {y : Port} (hy : hasP p y = true) : ((bif decide (y.elem < (pos.length : Int)) then (idx pos y.elem).bind fun y1223 => some y1223 else some 0 : Option (Int))) = some ((idx pos y.elem).getD 0) := by
  obtain ⟨e, he, _⟩ := hasP_idx hy
  have := idx_len he
  by_cases h : y.elem < (pos.length : Int)
  · obtain ⟨a, ha⟩ := idx_of (l := pos) this.1 h
    simp [h, ha]
  · simp [h, idx_none (.inr (show (pos.length : Int) ≤ y.elem by omega))]

end Go.E
/- Plain Lean: a running body's way: the two loops go in step. No condition. -/
namespace Go.E
open Go

/-- What a way ends in: mode, left, over, speed, headings. -/
structure EndOK (tr : List Port) (e : Int × Int × Int × Int × List Port) : Prop where
  mode : e.1 = 2 ∨ e.1 = 4
  left : 0 ≤ e.2.1 ∧ e.2.1 ≤ 4000
  over : 0 ≤ e.2.2.1 ∧ e.2.2.1 ≤ 4060
  ne : 1 ≤ e.2.2.2.2.length
  le : e.2.2.2.2.length ≤ 5100

theorem R6_Step_eq {p : Plan} (hv : Valid p) (pos : List Int) (h : Port) : g_R6_Step p pos h = some (match nextP p h with
    | none => (⟨0, 0⟩, 3)
    | some y => if kindP p y.elem = 4 then (⟨0, 0⟩, 2) else match goP p pos y with
      | none => (⟨0, 0⟩, 4)
      | some o => (⟨y.elem, o⟩, 0)) := by
  have := hv.few.joins
  unfold g_R6_Step
  simp only [g_R6_Next_eq p (show p.joins.length < 1000000 by omega), Option.bind_some, g_R6_kind_eq, R6_Lies_eq, R6_Through_eq, go_lies, cbeq]
  cases hn : nextP p h with
  | none => rfl
  | some y =>
    simp only [Option.isSome_some, Bool.not_true, cond_false, Option.getD_some]
    by_cases k : kindP p y.elem = 4
    · simp only [if_pos k]
    · simp only [if_neg k, go_lies]
      cases goP p pos y <;> rfl

theorem R24_ahead_eq {p : Plan} (hv : Valid p) (pos : List Int) (h : Port) : g_R24_ahead p pos h = some (match nextP p h with
    | none => (⟨0, 0⟩, 3)
    | some y => if kindP p y.elem = 4 then (⟨0, 0⟩, 2) else match goP p pos y with
      | none => (⟨0, 0⟩, 4)
      | some o => (⟨y.elem, o⟩, 0)) := by
  unfold g_R24_ahead
  rw [R6_Step_eq hv]; rfl

theorem runs_step {p : Plan} {n : Net} (hn : NetOf p n) (hv : Valid p) (pos : List Int) (b : Body) (v : Int) (hb : 0 ≤ b.over ∧ b.over ≤ 4000) {m left : Int} {tr : List Port} (hm : 0 ≤ m ∧ m ≤ 60) (hl : 0 ≤ left ∧ left ≤ 4000) (h1 : 1 ≤ tr.length) (h2 : tr.length ≤ 5080)
    (hw : b.mode ≠ 1 ∨ tr.length ≠ 1) :
    (∃ e, g_body_Move_l1 n pos b v (m, 2, left, tr) = some (.inr e) ∧ g_R24_Move_l1 p pos b (heldF v 0 60) (m, left, tr) = some (.inr (.inl e)) ∧ EndOK tr e) ∨
    (0 < m ∧ ∃ left' h, g_body_Move_l1 n pos b v (m, 2, left, tr) = some (.inl (m - left, 2, left', tr ++ [h])) ∧ g_R24_Move_l1 p pos b (heldF v 0 60) (m, left, tr) = some (.inl (m - left, left', tr ++ [h])) ∧ left < m ∧ 1 ≤ left' ∧ left' ≤ 4000) := by
  by_cases hm0 : 0 < m
  · have hd : decide (0 < m) = true := by simpa using hm0
    have hst := step_held hm0 hl.1
    simp only [g_body_Move_l1, g_R24_Move_l1, hd, cond_true, hst, hold60]
    by_cases hml : m ≤ left
    · left
      have e1 : wi64 (left - m) = left - m := by rw [wi64_id] <;> omega
      have e2 : (wi64 (m - m) == 0) = true := by rw [show m - m = 0 by omega]; rfl
      have hmd : decide (m ≤ left) = true := by simpa using hml
      simp only [if_pos hml, e2, e1, hmd, cond_true]
      refine ⟨_, rfl, ?_, ?_⟩
      · rw [if_neg (by omega)]
      · rw [if_neg (by omega)]
        exact ⟨.inl rfl, by simp only; omega, by simp only; omega, h1, by simp only; omega⟩
    · have e1 : wi64 (left - left) = 0 := by rw [show left - left = 0 by omega]; rfl
      have e2 : wi64 (m - left) = m - left := by rw [wi64_id] <;> omega
      have e3 : (m - left == 0) = false := by rw [beq_eq_false_iff_ne]; omega
      have hmd : decide (m ≤ left) = false := by simpa using hml
      obtain ⟨x, hx, hx'⟩ := last_idx (l := tr) h1 (by omega)
      have e4 : wi64 (b.over + (m - left)) = b.over + (m - left) := by rw [wi64_id] <;> omega
      simp only [if_neg hml, e1, e2, e3, hmd, cond_false, hx, Option.bind_some, net_Next hn, R24_ahead_eq hv, net_Kind hn, e4, show ¬ (0 : Int) > 0 by omega, if_false, wi64_id (n := (0 : Int)) (by omega) (by omega)]
      cases hnx : nextP p x with
      | none =>
        left
        exact ⟨_, rfl, rfl, .inl rfl, by simp, by simp only; omega, h1, by simp only; omega⟩
      | some y =>
        simp only [Option.isSome_some, Bool.not_true, cond_false, Option.getD_some, cbeq]
        by_cases k4 : kindP p y.elem = 4
        · left
          simp only [if_pos k4]
          exact ⟨_, rfl, rfl, .inl rfl, by simp, by simp only; omega, h1, by simp only; omega⟩
        · simp only [if_neg k4, prog_pos (hv.join.next hnx), Option.bind_some, net_Through hn]
          have hg : throughP p y.elem y.fin ((idx pos y.elem).getD 0) = goP p pos y := rfl
          rw [hg]
          cases hgo : goP p pos y with
          | none =>
            left
            refine ⟨(4, 0, b.over, 0, tr), rfl, ?_, .inr rfl, by simp, by simp only; omega, h1, by simp only; omega⟩
            simp only [show ¬ ((4 : Int) = 2) by decide, if_false, if_true]
            have hcond : ((if b.mode = 1 then if (tr.length : Int) = 1 then (idx tr 0).bind fun y595 => (idx b.trail 0).bind fun y597 => some (y595 == y597) else some false else some false : Option Bool)) = some false := by
              rcases hw with hw | hw
              · simp [hw]
              · have : ¬ ((tr.length : Int) = 1) := by omega
                simp [this]
            rw [hcond]; rfl
          | some o =>
            right
            obtain ⟨e, he, hke⟩ := hasP_idx (hv.join.next hnx)
            have hlen := lengthP_le hv.args y.elem
            have k0 : kindP p y.elem ≠ 0 := by
              obtain ⟨_, _, f3⟩ := hasP_fin (hv.join.next hnx)
              intro k; rw [k] at f3; simp [endsF] at f3
              have := (hasP_fin (hv.join.next hnx)).1
              omega
            refine ⟨hm0, lengthP p y.elem, ⟨y.elem, o⟩, ?_, ?_, by omega, hlen.2.2 k4 k0, hlen.2.1⟩
            · simp only [Option.isSome_some, Bool.not_true, cond_false, Option.getD_some]
              rw [appI_ok (by simp; omega)]
              simp only [Option.bind_some, net_Length hn]
            · simp only [show ¬ ((0 : Int) = 2) by decide, show ¬ ((0 : Int) = 4) by decide, if_false, Option.bind_some, cond_false]
              have : ((0 : Int) != 0) = false := rfl
              simp only [this, cond_false]
              rw [appI_ok (by simp; omega)]
              simp only [Option.bind_some, g_R6_Length_eq]
  · left
    have hd : decide (0 < m) = false := by simpa using hm0
    simp only [g_body_Move_l1, g_R24_Move_l1, hd, cond_false, hold60]
    exact ⟨_, rfl, rfl, .inl rfl, by simp only; omega, by simp only; omega, h1, by simp only; omega⟩

end Go.E
/- Plain Lean: a running body's whole way, and its tail: in step. No condition. -/
namespace Go.E
open Go

theorem runs_eq {p : Plan} {n : Net} (hn : NetOf p n) (hv : Valid p) (pos : List Int) (b : Body) (v : Int) (hb : 0 ≤ b.over ∧ b.over ≤ 4000) {m left : Int} {tr : List Port} (hm : 0 ≤ m ∧ m ≤ 60) (hl : 0 ≤ left ∧ left ≤ 4000) (h1 : 1 ≤ tr.length) (h2 : tr.length ≤ 5010)
    (hw : b.mode ≠ 1 ∨ tr.length ≠ 1) :
    ∃ e, loopR (g_body_Move_l1 n pos b v) (m, 2, left, tr) = some e ∧ loopR (g_R24_Move_l1 p pos b (heldF v 0 60)) (m, left, tr) = some (.inl e) ∧ EndOK tr e := by
  obtain ⟨e, r, he, hr, rfl, ho⟩ := loop_two (f := g_body_Move_l1 n pos b v) (g := g_R24_Move_l1 p pos b (heldF v 0 60)) (Post := fun a r => r = .inl a ∧ EndOK tr a)
    (fun k s t => ∃ m' left' tr', s = (m', 2, left', tr') ∧ t = (m', left', tr') ∧ 0 ≤ m' ∧ m' ≤ 60 ∧ 0 ≤ left' ∧ left' ≤ 4000 ∧ tr'.length = tr.length + k ∧ k ≤ 62 ∧ (1 ≤ k → m' ≤ 61 - (k : Int) ∧ 1 ≤ left')) 63
    (fun k s t => by
      rintro ⟨m', left', tr', rfl, rfl, a1, a2, a3, a4, a5, a6, a7⟩
      rcases runs_step hn hv pos b v hb (m := m') (left := left') (tr := tr') ⟨a1, a2⟩ ⟨a3, a4⟩ (by omega) (by omega) (by rcases hw with h | h; exact .inl h; exact .inr (by omega)) with ⟨e, e1, e2, e3⟩ | ⟨c1, l2, h, e1, e2, c2, c3, c4⟩
      · exact .inl ⟨e, _, e1, e2, rfl, ⟨e3.mode, e3.left, e3.over, e3.ne, e3.le⟩⟩
      · refine .inr ⟨?_, _, _, e1, e2, m' - left', l2, tr' ++ [h], rfl, rfl, by omega, by omega, by omega, by omega, by simp; omega, ?_, fun _ => ⟨?_, c3⟩⟩
        · by_cases hk : 1 ≤ k
          · have := a7 hk; omega
          · omega
        · by_cases hk : 1 ≤ k
          · have := a7 hk; omega
          · omega
        · by_cases hk : 1 ≤ k
          · have := a7 hk; omega
          · omega)
    (s := (m, 2, left, tr)) (t := (m, left, tr)) ⟨m, left, tr, rfl, rfl, hm.1, hm.2, hl.1, hl.2, by omega, by omega, fun h => by omega⟩
  exact ⟨e, he, hr, ho⟩

/-! ### the tail -/
/-- How much lies in front of the first element. -/
def roomF (p : Plan) : Int → List Port → Int
  | s, [] => s
  | s, h :: r => roomF p (s + lengthP p h.elem) r

theorem room_loop {p : Plan} (ha : ArgsP p) {β : Type} (l : List Port) (hl : l.length ≤ 6000) (s0 : Int) (hs : -10000 ≤ s0 ∧ s0 ≤ 10000) {step : Int × Int → Option ((Int × Int) ⊕ β)} (fin : Int → Option ((Int × Int) ⊕ β))
    (h1 : ∀ (i : Nat) h s, l[i]? = some h → step (s, (i : Int)) = some (.inl (wi64 (s + lengthP p h.elem), wi64 ((i : Int) + 1)))) (h2 : ∀ s, step (s, (l.length : Int)) = fin s) (hf : ∀ s, ∃ b, fin s = some (.inr b)) :
    ∀ b, fin (roomF p s0 l) = some (.inr b) → loopR step (s0, 0) = some b := by
  intro b hb
  have key : ∀ (r : List Port) (i : Nat) (s : Int), l.drop i = r → i ≤ l.length → -10000 ≤ s → s ≤ 10000 + 4000 * (i : Int) → roomF p s r = roomF p s0 l → loopR step (s, (i : Int)) = some b := by
    intro r
    induction r with
    | nil =>
      intro i s hd hi _ _ hr
      have : i = l.length := by have := congrArg List.length hd; simp at this; omega
      subst this
      have e : fin s = some (.inr b) := by rw [← hb, ← hr]; rfl
      exact loopR_inr (by rw [h2, e])
    | cons a r ih =>
      intro i s hd hi hs1 hs2 hr
      have hlt : i < l.length := by have := congrArg List.length hd; simp at this; omega
      have hai : l[i]? = some a := by
        have : (l.drop i)[0]? = some a := by rw [hd]; rfl
        simpa using this
      have hrest : l.drop (i + 1) = r := by
        have : (l.drop i).drop 1 = r := by rw [hd]; rfl
        rwa [List.drop_drop] at this
      obtain ⟨l1, l2, _⟩ := lengthP_le ha a.elem
      rw [loopR_inl (h1 i a s hai), wi64_succ (show i < 1000000000 by omega), wi64_id (n := s + lengthP p a.elem) (by omega) (by omega)]
      exact ih (i + 1) _ hrest (by omega) (by omega) (by omega) hr
  exact key l 0 s0 rfl (Nat.zero_le _) hs.1 (by simpa using hs.2) rfl

end Go.E
/- Plain Lean: Move is one. No condition. -/
namespace Go.E
open Go

theorem slI_tail {l : List Port} (h : 1 ≤ l.length) : slI l 1 (l.length : Int) = some (l.drop 1) := by
  unfold slI
  rw [if_pos (by omega)]
  simp

theorem delI_first {l : List Port} (h : 1 ≤ l.length) : delI l 0 1 = some (l.drop 1) := by
  unfold delI
  rw [if_pos (by omega)]
  simp

theorem has_eq {p : Plan} {n : Net} (hn : NetOf p n) (hv : Valid p) (b : Body) (h1 : 1 ≤ b.trail.length) (hl : b.trail.length ≤ 6000) (h2 : 0 ≤ b.left ∧ b.left ≤ 4000) (h3 : 0 ≤ b.over ∧ b.over ≤ 4060) :
    g_body_has n b = some (roomF p (b.over - b.left) (b.trail.drop 1)) := by
  unfold g_body_has
  rw [slI_tail h1]
  simp only [Option.bind_some]
  rw [wi64_id (n := b.over - b.left) (by omega) (by omega)]
  refine room_loop hv.args (b.trail.drop 1) (by simp; omega) _ (by omega) (fun s => some (.inr s)) (fun i h s hi => ?_) (fun s => ?_) (fun s => ⟨s, rfl⟩) _ rfl
  · simp only [g_body_has_l1, dlt hi, cond_true, idx_nat, hi, Option.bind_some, net_Length hn]
  · simp only [g_body_has_l1, dge, cond_false]

theorem tail_eq {p : Plan} {n : Net} (hn : NetOf p n) (hv : Valid p) (len : Int) (e : Int × Int × Int × Int × List Port) (h2 : 0 ≤ e.2.1 ∧ e.2.1 ≤ 4000) (h3 : 0 ≤ e.2.2.1 ∧ e.2.2.1 ≤ 4060) (tr : List Port) (h1 : 1 ≤ tr.length) (hl : tr.length ≤ 5200) :
    ∃ tr', loopR (g_body_Move_l2 n len e) tr = some ⟨e.1, tr', e.2.1, e.2.2.1, e.2.2.2.1⟩ ∧ loopR (g_R24_shorter_l1 p len ⟨e.1, e.2.2.2.2, e.2.1, e.2.2.1, e.2.2.2.1⟩) tr = some tr' ∧ tr'.length ≤ 5200 ∧ 1 ≤ tr'.length ∧ tr'.length ≤ tr.length ∧ tr'.getLast? = tr.getLast? := by
  obtain ⟨a, b, ha, hb, rfl, hle, q1, q2, q3⟩ := loop_two (f := g_body_Move_l2 n len e) (g := g_R24_shorter_l1 p len ⟨e.1, e.2.2.2.2, e.2.1, e.2.2.1, e.2.2.2.1⟩) (Post := fun a b => a = ⟨e.1, b, e.2.1, e.2.2.1, e.2.2.2.1⟩ ∧ b.length ≤ 5200 ∧ 1 ≤ b.length ∧ b.length ≤ tr.length ∧ b.getLast? = tr.getLast?)
    (fun k s t => s = t ∧ 1 ≤ s.length ∧ s.length + k ≤ tr.length ∧ s.getLast? = tr.getLast?) 5200
    (fun k s t => by
      rintro ⟨rfl, c1, c2, c3⟩
      by_cases hd : (1 : Int) < (s.length : Int)
      · have hdd : decide ((1 : Int) < (s.length : Int)) = true := by simpa using hd
        have hh := has_eq hn hv ⟨e.1, s, e.2.1, e.2.2.1, e.2.2.2.1⟩ c1 (by simp only; omega) h2 h3
        simp only at hh
        simp only [g_body_Move_l2, g_R24_shorter_l1, hdd, cond_true, hh, Option.bind_some, slI_tail c1]
        rw [wi64_id (n := e.2.2.1 - e.2.1) (by omega) (by omega)]
        have inner : ∀ r, ((bif decide (roomF p (e.2.2.1 - e.2.1) (s.drop 1) < len) then some (.inr s) else (slI s 1 (s.length : Int)).bind fun y756 => some (.inl y756)) : Option (List Port ⊕ List Port)) = some r →
            loopR (g_R24_shorter_l2 p len s (s.drop 1)) (e.2.2.1 - e.2.1, 0) = some r := by
          intro r hr
          refine room_loop hv.args (s.drop 1) (by simp; omega) _ (by omega) (fun x => ((bif decide (x < len) then some (.inr s) else (slI s 1 (s.length : Int)).bind fun y756 => some (.inl y756)) : Option (List Port ⊕ List Port)).map .inr) (fun i h x hi => ?_) (fun x => ?_) (fun x => ?_) _ ?_
          · simp only [g_R24_shorter_l2, dlt hi, cond_true, idx_nat, hi, Option.bind_some, g_R6_Length_eq]
          · simp only [g_R24_shorter_l2, dge, cond_false]
          · rw [slI_tail c1]
            cases decide (x < len)
            · exact ⟨_, rfl⟩
            · exact ⟨_, rfl⟩
          · rw [hr]; rfl
        by_cases hr : len ≤ roomF p (e.2.2.1 - e.2.1) (s.drop 1)
        · right
          have d1 : decide (len ≤ roomF p (e.2.2.1 - e.2.1) (s.drop 1)) = true := decide_eq_true hr
          have d2 : decide (roomF p (e.2.2.1 - e.2.1) (s.drop 1) < len) = false := decide_eq_false (by omega)
          refine ⟨by omega, s.drop 1, s.drop 1, ?_, inner _ ?_, rfl, by simp; omega, by simp; omega, by rw [List.getLast?_drop, if_neg (by omega)]; exact c3⟩
          · simp only [d1, cond_true, delI_first c1, Option.bind_some]
          · simp only [d2, cond_false, slI_tail c1, Option.bind_some]
        · left
          have d1 : decide (len ≤ roomF p (e.2.2.1 - e.2.1) (s.drop 1)) = false := decide_eq_false hr
          have d2 : decide (roomF p (e.2.2.1 - e.2.1) (s.drop 1) < len) = true := decide_eq_true (by omega)
          refine ⟨⟨e.1, s, e.2.1, e.2.2.1, e.2.2.2.1⟩, s, ?_, inner _ ?_, rfl, by omega, c1, by omega, c3⟩
          · simp only [d1, cond_false]
          · simp only [d2, cond_true]
      · have hdd : decide ((1 : Int) < (s.length : Int)) = false := by simpa using hd
        exact .inl ⟨⟨e.1, s, e.2.1, e.2.2.1, e.2.2.2.1⟩, s, by simp only [g_body_Move_l2, hdd, cond_false, Option.bind_some], by simp only [g_R24_shorter_l1, hdd, cond_false], rfl, by omega, c1, by omega, c3⟩)
    (s := tr) (t := tr) ⟨rfl, h1, by omega, rfl⟩
  exact ⟨b, ha, hb, hle, q1, q2, q3⟩

theorem Clone_ports (l : List Port) (h : l.length ≤ 1000000) : g_slices_Clone_apiPort l = some l := clone_eq l h

theorem Move_eq {p : Plan} {n : Net} (hn : NetOf p n) (hv : Valid p) {len : Int} {b : Body} (hb : BodyOK p len b) (hl : b.trail.length ≤ 5000) (pos : List Int) (v : Int) :
    ∃ r, (g_body_Move n pos len b v = some r ∧ g_R24_Move p pos len b v = some r) ∧ r.trail.length ≤ 5200 ∧
      (b.mode = 1 → ∀ h y, b.trail = [h] → nextP p h = some y → (r.mode = 1 ↔ heldF v 0 60 = 0 ∨ goP p pos y = none)) := by
  have hV := heldF_le (x := v) (lo := 0) (hi := 60) (by omega)
  have hlen := hb.len
  unfold g_body_Move g_R24_Move
  simp only [Clone_ports b.trail (by omega), Option.bind_some, R24_hold_eq (show (0 : Int) ≤ 60 by omega), hold60, cbne, cbeq]
  -- what comes behind the way
  have rest : ∀ e : Int × Int × Int × Int × List Port, EndOK b.trail e ∨ (0 ≤ e.2.1 ∧ e.2.1 ≤ 4000 ∧ 0 ≤ e.2.2.1 ∧ e.2.2.1 ≤ 4060 ∧ 1 ≤ e.2.2.2.2.length ∧ e.2.2.2.2.length ≤ 5200) →
      ∃ r, (bif decide (len ≤ e.2.2.1) then some (⟨3, [], 0, 0, 0⟩ : Body) else loopR (g_body_Move_l2 n len e) e.2.2.2.2) = some r ∧ (r.trail.length ≤ 5200 ∧ (e.1 = 2 ∨ e.1 = 4 → r.mode ≠ 1)) ∧
        (bif decide (len ≤ e.2.2.1) then some (⟨3, [], 0, 0, 0⟩ : Body) else (g_R24_shorter p len ⟨e.1, e.2.2.2.2, e.2.1, e.2.2.1, e.2.2.2.1⟩).bind fun y => some y) = some r := by
    intro e he
    have he' : 0 ≤ e.2.1 ∧ e.2.1 ≤ 4000 ∧ 0 ≤ e.2.2.1 ∧ e.2.2.1 ≤ 4060 ∧ 1 ≤ e.2.2.2.2.length ∧ e.2.2.2.2.length ≤ 5200 := by
      rcases he with h | h
      · exact ⟨h.left.1, h.left.2, h.over.1, h.over.2, h.ne, by have := h.le; omega⟩
      · exact h
    obtain ⟨a1, a2, a3, a4, a5, a6⟩ := he'
    cases decide (len ≤ e.2.2.1) with
    | true => exact ⟨_, rfl, ⟨by simp, by simp⟩, rfl⟩
    | false =>
      obtain ⟨t, h1, h2, h3, -⟩ := tail_eq hn hv len e ⟨a1, a2⟩ ⟨a3, a4⟩ e.2.2.2.2 a5 a6
      refine ⟨_, h1, ⟨h3, fun h => by simp only; omega⟩, ?_⟩
      unfold g_R24_shorter
      simp only [cond_false, h2, Option.bind_some]
  by_cases m3 : b.mode = 3
  · refine ⟨b, ⟨?_, by simp [m3]⟩, by omega, fun h => by omega⟩
    simp only [m3]
    cases b; simp only at m3; subst m3; simp
  by_cases m4 : b.mode = 4
  · refine ⟨b, ⟨?_, by simp [m4]⟩, by omega, fun h => by omega⟩
    cases b; simp only at m4; subst m4; simp
  have hap : appI ([] : List Port) b.trail = some b.trail := by rw [appI_ok (by simp; omega)]; rfl
  by_cases m2 : b.mode = 2
  · have hh := hb.heads (.inl m2)
    have hne := hh.ne
    have h0 : ((b.trail.length : Int) == 0) = false := by rw [beq_eq_false_iff_ne]; omega
    obtain ⟨e, e1, e2, e3⟩ := runs_eq hn hv pos b v hb.over hV hb.left hh.ne (by omega) (.inl (by omega))
    obtain ⟨r, r1, r3, r2⟩ := rest e (.inl e3)
    refine ⟨r, ⟨?_, ?_⟩, r3.1, fun h => by omega⟩
    · simp only [m2, show ¬ (2 : Int) = 1 by decide, if_true, if_false, h0, Option.bind_some, cond_false, e1]
      exact r1
    · simp only [m2, show ¬ (2 : Int) = 1 by decide, show ¬ (2 : Int) = 3 by decide, show ¬ (2 : Int) = 4 by decide, if_false, Option.bind_some, cond_false, hap, e2, seqR]
      exact r2
  have m1 : b.mode = 1 := by rcases hb.mode with h | h | h | h <;> omega
  obtain ⟨h, ht, hf0, hk4⟩ := hb.waits m1
  obtain ⟨s1, s2, s3⟩ := hb.still (by omega)
  by_cases hV0 : heldF v 0 60 = 0
  · refine ⟨b, ⟨?_, ?_⟩, by omega, fun _ h y _ _ => by simp [m1, hV0]⟩
    · have h0 : ((b.trail.length : Int) == 0) = false := by rw [ht]; rfl
      have hv0 : (heldF v 0 60 == 0) = true := by rw [hV0]; rfl
      simp only [m1, if_true, h0, Option.bind_some, cond_false, hv0, cond_true, hV0]
      cases b; simp only at m1 s3; subst m1 s3; rfl
    · have hv0 : (heldF v 0 60 == 0) = true := by rw [hV0]; rfl
      simp only [m1, show ¬ (1 : Int) = 3 by decide, show ¬ (1 : Int) = 4 by decide, if_true, if_false, hv0, Option.bind_some, cond_true]
  · have hv0 : (heldF v 0 60 == 0) = false := beq_eq_false_iff_ne.2 hV0
    have hpos : 0 < heldF v 0 60 := by omega
    have h0 : ((b.trail.length : Int) == 0) = false := by rw [ht]; rfl
    -- the first round
    have hh : hasP p h = true := by simp [hasP, hf0, hk4, endsF]
    obtain ⟨el, hel, hke⟩ := hasP_idx hh
    obtain ⟨q1, q2⟩ := idx_at hel
    obtain ⟨y, hy, hyk⟩ := hv.join.gate _ el q1 (by rw [← hke]; exact hk4)
    have hnx : nextP p h = some y := by
      rw [← hy, ← q2, ← hf0]
    have hd : decide (0 < heldF v 0 60) = true := by simpa using hpos
    have hst := step_held (m := heldF v 0 60) (l := 0) hpos (by omega)
    have hml : ¬ heldF v 0 60 ≤ 0 := by omega
    have hmd : decide (heldF v 0 60 ≤ 0) = false := decide_eq_false hml
    have e2 : wi64 (heldF v 0 60 - 0) = heldF v 0 60 := by rw [wi64_id] <;> omega
    have hx : idx [h] (wi64 ((([h] : List Port).length : Int) - 1)) = some h := rfl
    have hg : throughP p y.elem y.fin ((idx pos y.elem).getD 0) = goP p pos y := rfl
    cases hgo : goP p pos y with
    | none =>
      refine ⟨b, ⟨?_, ?_⟩, by omega, fun _ h' y' q1 q2 => by
        rw [ht] at q1; cases q1; rw [hnx] at q2; cases q2
        simp [m1, hgo]⟩
      · have st : g_body_Move_l1 n pos b v (heldF v 0 60, 1, 0, [h]) = some (.inr (1, 0, 0, 0, [h])) := by
          simp only [g_body_Move_l1, hd, cond_true, hst, if_neg hml, show wi64 (0 - 0) = 0 by decide, e2, hv0, cond_false, hx, Option.bind_some, net_Next hn, hnx, Option.isSome_some, Option.getD_some, Bool.not_true, net_Kind hn, cbeq, if_neg hyk, prog_pos (hv.join.next hnx), net_Through hn, hg, hgo, show ¬ (0 : Int) > 0 by omega, if_false, s2]
          rfl
        have hl1 : decide (len ≤ (0 : Int)) = false := decide_eq_false (by omega)
        have l2 : loopR (g_body_Move_l2 n len (1, 0, 0, 0, [h])) [h] = some ⟨1, [h], 0, 0, 0⟩ := loopR_inr rfl
        simp only [m1, if_true, h0, Option.bind_some, cond_false, hv0, s1, ht, loopR_inr st, hl1, l2]
        cases b; simp only at m1 ht s1 s2 s3; subst m1 ht s1 s2 s3; rfl
      · have st : g_R24_Move_l1 p pos b (heldF v 0 60) (heldF v 0 60, 0, [h]) = some (.inr (.inr b)) := by
          have i0 : idx [h] 0 = some h := rfl
          simp only [g_R24_Move_l1, hd, cond_true, hmd, cond_false, hx, Option.bind_some, R24_ahead_eq hv, hnx, if_neg hyk, hgo, cbeq, show ¬ ((4 : Int) = 2) by decide, if_false, if_true, m1, ht, i0]
          simp
        simp only [m1, show ¬ (1 : Int) = 3 by decide, show ¬ (1 : Int) = 4 by decide, if_true, if_false, hv0, Option.bind_some, cond_false, hap]
        rw [s1, ht, loopR_inr st]; rfl
    | some o =>
      have hlen' := lengthP_le hv.args y.elem
      have st1 : g_body_Move_l1 n pos b v (heldF v 0 60, 1, 0, [h]) = some (.inl (heldF v 0 60, 2, lengthP p y.elem, [h, ⟨y.elem, o⟩])) := by
        simp only [g_body_Move_l1, hd, cond_true, hst, if_neg hml, show wi64 (0 - 0) = 0 by decide, e2, hv0, cond_false, hx, Option.bind_some, net_Next hn, hnx, Option.isSome_some, Option.getD_some, Bool.not_true, net_Kind hn, cbeq, if_neg hyk, prog_pos (hv.join.next hnx), net_Through hn, hg, hgo, show ¬ (0 : Int) > 0 by omega, if_false]
        rw [appI_ok (by simp)]
        simp only [Option.bind_some, net_Length hn]; rfl
      have st2 : g_R24_Move_l1 p pos b (heldF v 0 60) (heldF v 0 60, 0, [h]) = some (.inl (heldF v 0 60, lengthP p y.elem, [h, ⟨y.elem, o⟩])) := by
        simp only [g_R24_Move_l1, hd, cond_true, hmd, cond_false, hx, Option.bind_some, R24_ahead_eq hv, hnx, if_neg hyk, hgo, cbeq, show ¬ ((0 : Int) = 2) by decide, show ¬ ((0 : Int) = 4) by decide, if_false, e2]
        have : ((0 : Int) != 0) = false := rfl
        simp only [this, cond_false]
        rw [appI_ok (by simp)]
        simp only [Option.bind_some, g_R6_Length_eq]; rfl
      obtain ⟨e, e1, e2', e3⟩ := runs_eq hn hv pos b v hb.over hV (left := lengthP p y.elem) (tr := [h, ⟨y.elem, o⟩]) ⟨hlen'.1, hlen'.2.1⟩ (by simp) (by simp) (.inr (by simp))
      obtain ⟨r, r1, r3, r2⟩ := rest e (.inr ⟨e3.left.1, e3.left.2, e3.over.1, e3.over.2, e3.ne, by have := e3.le; omega⟩)
      refine ⟨r, ⟨?_, ?_⟩, r3.1, fun _ h' y' q1 q2 => by
        rw [ht] at q1; cases q1; rw [hnx] at q2; cases q2
        have := r3.2 e3.mode
        simp [hgo, hV0, this]⟩
      · simp only [m1, if_true, h0, Option.bind_some, cond_false, hv0, s1, ht, loopR_inl st1, e1]
        exact r1
      · simp only [m1, show ¬ (1 : Int) = 3 by decide, show ¬ (1 : Int) = 4 by decide, if_true, if_false, hv0, Option.bind_some, cond_false, hap]
        rw [s1, ht, loopR_inl st2, e2']
        exact r2

end Go.E
/- The known answers of layer 24, reckoned by the kernel. No condition. -/
namespace Go.E
open Go Go.Proofs
set_option maxRecDepth 100000
theorem known_holds : g_L24_known = some true := by kernel_rfl

end Go.E
/- Plain Lean: LoopForms answers true, for every argument. Condition: the name of the stock has at most 2^63 - 1 bytes, as every text has. -/
namespace Go.E
open Go

theorem SamePorts_self (l : List Port) (hl : l.length < 1000000) : g_R6_SamePorts l l = some true := by
  unfold g_R6_SamePorts
  simp only [bne_self_eq_false, cond_false]
  obtain ⟨b, hb, rfl⟩ := loop_ix (l := l) (step := g_R6_SamePorts_l1 l l) (Post := fun b => b = true) (fun _ _ => True) (fun _ => ⟨true, by simp only [g_R6_SamePorts_l1, dge, cond_false], rfl⟩)
    (fun i a h _ => .inr ⟨by have := ilt h; simp only [g_R6_SamePorts_l1, dlt h, cond_true, idx_nat, h, Option.bind_some, beq_self_eq_true, Bool.not_true, cond_false, wi64_succ (show i < 1000000000 by omega)], trivial⟩)
  exact hb

theorem asked_total (p : Plan) (pos lamps : List Int) (s : Stock) (b : Body) (hs : s.name.size ≤ 9223372036854775807) : ∃ r, g_L24_asked p pos lamps s b = some r ∧
    (r = true → g_R6_Fine p = some true ∧ Valid p ∧ StockOK s ∧ BodyOK p s.len b ∧ b.trail.length ≤ 5000 ∧ pos.length ≤ 100 ∧ lamps.length ≤ 100 ∧ g_R24_May s = some true ∧ g_R24_MayBody p s.len b = some true) := by
  unfold g_L24_asked
  by_cases a1 : (pos.length : Int) ≤ 100
  · by_cases a2 : (lamps.length : Int) ≤ 100
    · by_cases a3 : (b.trail.length : Int) ≤ 5000
      · simp only [a1, a2, a3, decide_true, cond_true]
        obtain ⟨f, hf, hv⟩ := fine_total p
        simp only [hf, Option.bind_some]
        cases f with
        | false => exact ⟨false, rfl, by simp⟩
        | true =>
          obtain ⟨m, hm, hm'⟩ := May_total s hs
          simp only [hm, Option.bind_some, cond_true]
          cases m with
          | false => exact ⟨false, rfl, by simp⟩
          | true =>
            obtain ⟨r, hr, hr'⟩ := MayBody_total p (hv rfl) s.len b (by omega)
            refine ⟨r, by simp only [hr, Option.bind_some, cond_true], fun h => ?_⟩
            subst h
            exact ⟨by first | exact hf | trivial, hv rfl, hm' rfl, hr' rfl, by omega, by omega, by omega, by first | exact hm | trivial, hr⟩
      · exact ⟨false, by simp [a1, a2, a3], by simp⟩
    · exact ⟨false, by simp [a1, a2], by simp⟩
  · exact ⟨false, by simp [a1], by simp⟩

theorem made_ok {p : Plan} {pos lamps : List Int} {s : Stock} {b : Body} (h1 : g_R6_Fine p = some true) (h2 : g_R24_May s = some true) (h3 : g_R24_MayBody p s.len b = some true) (h4 : pos.length ≤ 100) (h5 : lamps.length ≤ 100) (h6 : b.trail.length ≤ 5000) :
    ∃ n, g_L24_made p pos lamps s b = some (some n) ∧ NetOf p n := by
  obtain ⟨o, ho, hn⟩ := made_total p
  obtain ⟨n, rfl, hno⟩ := hn h1
  refine ⟨n, ?_, hno⟩
  unfold g_L24_made
  simp only [show ¬ (100 : Int) < pos.length by omega, show ¬ (100 : Int) < lamps.length by omega, show ¬ (5000 : Int) < b.trail.length by omega, decide_false, cond_false, h1, h2, h3, ho, Option.bind_some, Bool.not_true, optM]

theorem LoopForms_true (p : Plan) (pos lamps : List Int) (s : Stock) (b : Body) (want : Int) (first : Bool) (hs : s.name.size ≤ 9223372036854775807) : g_L24_LoopForms p pos lamps s b want first = some true := by
  unfold g_L24_LoopForms
  obtain ⟨r, hr, h⟩ := asked_total p pos lamps s b hs
  simp only [known_holds, Option.bind_some, Bool.not_true, cond_false, hr]
  cases r with
  | false => rfl
  | true =>
    obtain ⟨h1, hv, hst, hb, hl, h4, h5, h2, h3⟩ := h rfl
    obtain ⟨n, hn, hno⟩ := made_ok h1 h2 h3 h4 h5 hl
    obtain ⟨x, ⟨x1, x2⟩, x3, -⟩ := Move_eq hno hv hb hl pos (speedF s b.v want (forcedF p lamps b first))
    have s1 : g_loop_Step n pos lamps s b want first = some x := by
      unfold g_loop_Step
      simp only [loop_Forced_eq hno hv hb (by omega), Option.bind_some, pace_Next_eq hst, x1]
    have s2 : g_R24_Step p pos lamps s b want first = some x := by
      unfold g_R24_Step
      simp only [R24_Forced_eq hv hb (by omega), Option.bind_some, R24_Next_eq hst, x2]
    have hx : x.trail.length < 1000000 := by omega
    simp only [hn, Option.bind_some, Bool.not_true, cond_false, optM, loop_Forced_eq hno hv hb (show b.trail.length < 1000000 by omega), R24_Forced_eq hv hb (show b.trail.length < 1000000 by omega), beq_self_eq_true, cond_true, s1, s2, g_R24_SameBody, SamePorts_self _ hx]

end Go.E
/- Plain Lean: the way of one who brakes, and a step within what is left. No condition. -/
namespace Go.E
open Go

/-- The way of one who brakes, x being the first speed; j: at most so many ticks. -/
def stopM (b : Int) : Nat → Int → Int
  | 0, _ => 0
  | j + 1, x => if 0 < x then x + stopM b j (x - b) else 0

theorem stopM_pos (b : Int) : ∀ (j : Nat) (x : Int), 0 ≤ stopM b j x
  | 0, _ => by simp [stopM]
  | j + 1, x => by
    have := stopM_pos b j (x - b)
    simp only [stopM]
    split <;> omega

theorem stopM_succ (b : Int) : ∀ (j : Nat) (x : Int), stopM b j x ≤ stopM b (j + 1) x
  | 0, x => by
    have := stopM_pos b 1 x
    simpa [stopM] using this
  | j + 1, x => by
    have := stopM_succ b j (x - b)
    simp only [stopM] at this ⊢
    split
    · omega
    · omega

theorem stopM_more (b : Int) (j k : Nat) (x : Int) : stopM b j x ≤ stopM b (j + k) x := by
  induction k with
  | zero => exact Int.le_refl _
  | succ k ih => exact Int.le_trans ih (stopM_succ b (j + k) x)

theorem stopM_le {b b' : Int} (hb : b' ≤ b) : ∀ (j : Nat) (x x' : Int), x ≤ x' → stopM b j x ≤ stopM b' j x'
  | 0, _, _, _ => by simp [stopM]
  | j + 1, x, x', h => by
    have h1 := stopM_le hb j (x - b) (x' - b') (by omega)
    have h2 := stopM_pos b' j (x' - b')
    simp only [stopM]
    split
    · rw [if_pos (by omega)]; omega
    · split <;> omega

theorem Stop_ge {v b : Int} (hv : 0 ≤ v ∧ v ≤ 60) (hb : 1 ≤ b ∧ b ≤ 10) : ∃ n, g_R6_Stop v b = some n ∧ ∀ j, stopM b j (v - b) ≤ n := by
  unfold g_R6_Stop
  have h1 : ¬ v < 0 := by omega
  have h2 : ¬ 60 < v := by omega
  have h3 : ¬ b < 1 := by omega
  have h4 : ¬ 10 < b := by omega
  simp only [h1, h2, h3, h4, decide_false, cond_false, Option.bind_some]
  rw [wi64_id (n := v - b) (by omega) (by omega)]
  refine loop_up (fun k s => (s.1 ≤ 60 - (k : Int) ∧ -10 ≤ s.1 ∧ 0 ≤ s.2 ∧ s.2 ≤ 60 * (k : Int) ∧ k ≤ 60) ∧ ∀ j, stopM b (j + k) (v - b) = s.2 + stopM b j s.1) 61 ?_ ⟨⟨show v - b ≤ 60 - ((0 : Nat) : Int) by omega, show -10 ≤ v - b by omega, by simp, by simp, by omega⟩, fun j => by simp⟩
  rintro k ⟨x, n⟩ ⟨⟨a1, a2, a3, a4, a5⟩, a6⟩
  simp only at a1 a2 a3 a4 a6
  by_cases hx : 0 < x
  · refine .inr ⟨by omega, (x - b, n + x), by simp only [g_R6_Stop_l1, hx, decide_true, cond_true, wi64_id (n := x - b) (by omega) (by omega), wi64_id (n := n + x) (by omega) (by omega)], ⟨show x - b ≤ 60 - ((k + 1 : Nat) : Int) by omega, show -10 ≤ x - b by omega, show 0 ≤ n + x by omega, show n + x ≤ 60 * ((k + 1 : Nat) : Int) by omega, by omega⟩, fun j => ?_⟩
    have := a6 (j + 1)
    rw [show j + (k + 1) = j + 1 + k by omega, this]
    simp only [stopM, if_pos hx]
    omega
  · refine .inl ⟨n, by simp only [g_R6_Stop_l1, hx, decide_false, cond_false], fun j => ?_⟩
    have h := a6 j
    have : stopM b j x = 0 := by cases j with
      | zero => rfl
      | succ j => simp only [stopM, if_neg hx]
    have := stopM_more b j k (v - b)
    omega

/-- Whoever comes with at most the plan's speed into the loop, and brakes as the plan brakes, stands within the margin. -/
theorem margin_stop {p : Plan} (hv : Valid p) {v b : Int} (h1 : v ≤ p.top) (h2 : p.brake ≤ b) (j : Nat) : p.top + stopM b j (v - b) ≤ p.margin := by
  have ht := hv.args.top; have hb := hv.args.brake
  obtain ⟨n, hn, hj⟩ := Stop_ge (v := p.top) (b := p.brake) (by omega) hb
  have := hv.long.stop n hn
  have := hj j
  have := stopM_le h2 j (v - b) (p.top - p.brake) (by omega)
  omega

theorem shut_zeros {k : Nat} {x : Int} : shutF (List.replicate k (0 : Int)) x = true := by
  unfold shutF
  cases h : idx (List.replicate k (0 : Int)) x with
  | none => rfl
  | some y =>
    have hy : y = 0 := by
      unfold idx at h
      split at h
      · exact (List.eq_of_mem_replicate (List.mem_of_getElem? h))
      · cases h
    subst hy; rfl

theorem brake_speed {s : Stock} (hs : StockOK s) {v : Int} (h : 0 ≤ v ∧ v ≤ s.top) (w : Int) : speedF s v w true = if 0 < v - s.brake then v - s.brake else 0 := by
  have h1 := hs.top; have h2 := hs.brake
  unfold speedF heldF
  simp only [if_true]
  repeat' split
  all_goals omega

/-- One tick of a running body that does not come by its head's port. -/
theorem near_step {p : Plan} {n : Net} (hn : NetOf p n) (hv : Valid p) {s : Stock} (hs : StockOK s) {b : Body} (m2 : b.mode = 2) (o : b.over = 0) (hl : 0 ≤ b.left ∧ b.left ≤ 4000) (ht : b.trail.length ≤ 5000) {h : Port} (hlast : b.trail.getLast? = some h)
    (hr : 0 ≤ readsP p h) (lamps pos : List Int) (hsh : shutF lamps (readsP p h) = true) (w : Int) (v : Int) (hv' : v = speedF s b.v w (decide (b.left ≤ p.margin))) (hvl : v ≤ b.left) :
    ∃ tr, g_loop_Step n pos lamps s b w true = some ⟨2, tr, b.left - v, 0, v⟩ ∧ tr.length ≤ b.trail.length ∧ tr.getLast? = some h := by
  have hlast' : b.trail[b.trail.length - 1]? = some h := by rw [← List.getLast?_eq_getElem?]; exact hlast
  have h1 := ilt hlast'
  have hsp := speedF_le hs b.v w (decide (b.left ≤ p.margin))
  rw [← hv'] at hsp
  have hst := hs.top
  have hlen := hs.len
  have hF : g_loop_Forced n lamps b true = some (decide (b.left ≤ p.margin)) := by
    unfold g_loop_Forced
    simp only [cbeq, m2, show ¬ (2 : Int) = 1 by decide, if_false, loop_inside_eq hn hv (show b.trail.length < 1000000 by omega) hlast' hl.1, Option.bind_some, o, true_and, hr]
    by_cases c : b.left ≤ p.margin
    · simp only [c, if_true, hr, decide_true, cond_true, loop_shut_eq, Option.bind_some, hsh]
    · simp [c]
  have hh : heldF v 0 60 = v := by
    unfold heldF
    repeat' split
    all_goals omega
  unfold g_loop_Step
  simp only [hF, Option.bind_some, pace_Next_eq hs, ← hv']
  -- the way
  have e1 : loopR (g_body_Move_l1 n pos b v) (v, 2, b.left, b.trail) = some (2, b.left - v, 0, v, b.trail) := by
    refine loopR_inr ?_
    by_cases h0 : 0 < v
    · have hst := step_held h0 hl.1
      have e2 : (wi64 (v - v) == 0) = true := by rw [show v - v = 0 by omega]; rfl
      have e3 : wi64 (b.left - v) = b.left - v := by rw [wi64_id] <;> omega
      simp only [g_body_Move_l1, h0, decide_true, cond_true, hst, if_pos hvl, hold60, hh, e2, e3, o]
      rw [if_neg (by omega)]
    · have hz : v = 0 := by omega
      have hd : decide (0 < v) = false := by simpa using h0
      simp only [g_body_Move_l1, hd, cond_false, hold60, hh, o]
      rw [hz]; simp
  have h0 : ((b.trail.length : Int) == 0) = false := by rw [beq_eq_false_iff_ne]; omega
  have hle : decide (s.len ≤ (0 : Int)) = false := decide_eq_false (by omega)
  obtain ⟨tr, t1, -, -, -, t4, t5⟩ := tail_eq hn hv s.len (2, b.left - v, 0, v, b.trail) (by simp only; omega) (by simp) b.trail (by omega) (by omega)
  refine ⟨tr, ?_, t4, by rw [t5, hlast]⟩
  unfold g_body_Move
  simp only [Clone_ports b.trail (by omega), Option.bind_some, hold60, hh, cbne, cbeq, m2, show ¬ (2 : Int) = 1 by decide, if_true, if_false, h0, cond_false, e1, hle]
  rw [t1]; rfl

/-! ### a kind that fits the plan -/
theorem Find_one (s : Stock) : g_R24_Find [s] s.name = some 0 := by
  unfold g_R24_Find
  refine loopR_inr ?_
  have : idx [s] 0 = some s := rfl
  simp [g_R24_Find_l1, this]

theorem Check_one (p : Plan) (s : Stock) (hs : s.name.size ≤ 9223372036854775807) : ∃ r, g_R24_Check p [s] = some r ∧ (r = 0 → StockOK s ∧ s.top ≤ p.top ∧ p.brake ≤ s.brake ∧ g_R24_May s = some true) := by
  have i0 : idx [s] 0 = some s := rfl
  have d0 : decide ((0 : Int) < (([s] : List Stock).length : Int)) = true := by simp
  have d1 : decide ((1 : Int) < (([s] : List Stock).length : Int)) = false := by simp
  have w1 : wi64 ((0 : Int) + 1) = 1 := by decide
  have dd : decide ((4 : Int) < (([s] : List Stock).length : Int)) = false := by simp
  obtain ⟨m, hm, hok⟩ := May_total s hs
  have hp : g_R24_plain [s] = some (if m then 0 else 1) := by
    unfold g_R24_plain
    simp only [dd, cond_false]
    cases m with
    | false =>
      exact loopR_inr (by simp only [g_R24_plain_l1, d0, cond_true, i0, Option.bind_some, hm, Bool.not_false]; rfl)
    | true =>
      rw [loopR_inl (s' := (1 : Int)) (by simp only [g_R24_plain_l1, d0, cond_true, i0, Option.bind_some, hm, Bool.not_true, cond_false, w1])]
      refine loopR_inr ?_
      simp only [g_R24_plain_l1, d1, cond_false]
      have : loopR (g_R24_plain_l2 [s]) 0 = some 0 := by
        rw [loopR_inl (s' := (1 : Int)) (by simp only [g_R24_plain_l2, d0, cond_true, i0, Option.bind_some, Find_one, bne_self_eq_false, cond_false, w1])]
        exact loopR_inr (by simp only [g_R24_plain_l2, d1, cond_false])
      rw [this]; rfl
  unfold g_R24_Check
  simp only [hp, Option.bind_some]
  cases m with
  | false => exact ⟨1, rfl, by simp⟩
  | true =>
    simp only [if_true, bne_self_eq_false, cond_false]
    by_cases c1 : p.top < s.top
    · exact ⟨9, loopR_inr (by simp only [g_R24_Check_l1, d0, cond_true, i0, Option.bind_some, c1, decide_true]), by simp⟩
    · by_cases c2 : s.brake < p.brake
      · exact ⟨9, loopR_inr (by simp [g_R24_Check_l1, d0, cond_true, i0, Option.bind_some, c1, c2]), by simp⟩
      · refine ⟨0, ?_, fun _ => ⟨hok rfl, by omega, by omega, hm⟩⟩
        rw [loopR_inl (s' := (1 : Int)) (by simp only [g_R24_Check_l1, d0, cond_true, i0, Option.bind_some, c1, c2, decide_false, cond_false, w1])]
        exact loopR_inr (by simp only [g_R24_Check_l1, d1, cond_false])

end Go.E
/- Plain Lean: LoopStops and LoopNears answer true, for every argument. Conditions: the name of the stock has at most 2^63 - 1 bytes, as every text has; numbers of one byte are such. -/
namespace Go.E
open Go

/-- One who comes to stand ahead of his head's port. -/
structure SafeB (p : Plan) (s : Stock) (h : Port) (mode : Int) (trail : List Port) (left over v : Int) : Prop where
  hmode : mode = 2
  hover : over = 0
  hlast : trail.getLast? = some h
  hlen : trail.length ≤ 5000
  hleft : 0 ≤ left ∧ left ≤ 4000
  hv : 0 ≤ v ∧ v ≤ s.top
  hroom : p.margin < left ∨ ∀ j, stopM s.brake j (v - s.brake) ≤ left

theorem stopM_neg {b x : Int} (h : x ≤ 0) (j : Nat) : stopM b j x = 0 := by
  cases j with
  | zero => rfl
  | succ j => simp only [stopM, if_neg (show ¬ 0 < x by omega)]

theorem safe_step {p : Plan} {n : Net} (hn : NetOf p n) (hv : Valid p) {s : Stock} (hs : StockOK s) (h1 : s.top ≤ p.top) (h2 : p.brake ≤ s.brake) {h : Port} (hr : 0 ≤ readsP p h) (lamps pos : List Int) (hsh : shutF lamps (readsP p h) = true)
    {mode : Int} {trail : List Port} {left over v : Int} (hS : SafeB p s h mode trail left over v) (w : Int) :
    ∃ tr l' v', g_loop_Step n pos lamps s ⟨mode, trail, left, over, v⟩ w true = some ⟨2, tr, l', 0, v'⟩ ∧ SafeB p s h 2 tr l' 0 v' := by
  obtain ⟨m2, o, last, len, hl, hvv, room⟩ := hS
  subst m2 o
  have hm0 := margin_stop hv (v := s.top) (b := s.brake) h1 h2 0
  simp only [stopM] at hm0
  have hsp := speedF_le hs v w (decide (left ≤ p.margin))
  have ht := hs.top; have hb := hs.brake
  by_cases c : left ≤ p.margin
  · have room' : ∀ j, stopM s.brake j (v - s.brake) ≤ left := by
      rcases room with h | h
      · omega
      · exact h
    have e := brake_speed hs hvv w
    rw [decide_eq_true c] at hsp
    have r1 := room' 1
    simp only [stopM] at r1
    have hle : speedF s v w true ≤ left := by
      rw [e]
      split <;> split at r1 <;> omega
    obtain ⟨tr, t1, t2, t3⟩ := near_step hn hv hs (b := ⟨2, trail, left, 0, v⟩) rfl rfl hl len last hr lamps pos hsh w (speedF s v w true) (by simp only [decide_eq_true c]) hle
    refine ⟨tr, _, _, t1, rfl, rfl, t3, Nat.le_trans t2 len, by simp only; omega, hsp, .inr fun j => ?_⟩
    simp only
    by_cases c0 : 0 < v - s.brake
    · rw [if_pos c0] at e
      have := room' (j + 1)
      simp only [stopM, if_pos c0] at this
      rw [e]; omega
    · rw [if_neg c0] at e
      rw [e, stopM_neg (by omega)]; omega
  · rw [decide_eq_false c] at hsp
    obtain ⟨tr, t1, t2, t3⟩ := near_step hn hv hs (b := ⟨2, trail, left, 0, v⟩) rfl rfl hl len last hr lamps pos hsh w (speedF s v w false) (by simp only [decide_eq_false c]) (by simp only; omega)
    refine ⟨tr, _, _, t1, rfl, rfl, t3, Nat.le_trans t2 len, by simp only; omega, hsp, ?_⟩
    simp only
    by_cases c1 : p.margin < left - speedF s v w false
    · exact .inl c1
    · refine .inr fun j => ?_
      have := margin_stop hv (v := speedF s v w false) (b := s.brake) (by omega) h2 j
      omega

theorem last_get {l : List Port} {h : Port} (hl : l.length ≤ 5000) (hlast : l.getLast? = some h) : idx l (wi64 ((l.length : Int) - 1)) = some h ∧ ((l.length : Int) == 0) = false := by
  rw [List.getLast?_eq_getElem?] at hlast
  have h1 := ilt hlast
  obtain ⟨x, hx, hx'⟩ := last_idx (l := l) (by omega) (by omega)
  rw [hlast] at hx'; cases hx'
  exact ⟨hx, by rw [beq_eq_false_iff_ne]; omega⟩

theorem LoopStops_true (p : Plan) (pos : List Int) (s : Stock) (b : Body) (wants : List Int) (hs : s.name.size ≤ 9223372036854775807) : g_L24_LoopStops p pos s b wants = some true := by
  unfold g_L24_LoopStops
  simp only [known_holds, Option.bind_some, Bool.not_true, cond_false]
  by_cases c0 : (200 : Int) < (wants.length : Int)
  · simp only [c0, decide_true, cond_true, Option.bind_some]
  obtain ⟨r, hr, hok⟩ := asked_total p pos [] s b hs
  obtain ⟨e, he, hfit⟩ := Check_one p s hs
  simp only [c0, decide_false, cond_false, hr, Option.bind_some]
  cases r with
  | false => simp only [Bool.not_false, cond_true, Option.bind_some]
  | true =>
    simp only [Bool.not_true, cond_false, he, Option.bind_some, cbne]
    by_cases ce : e = 0
    · simp only [if_pos ce, cond_false]
      by_cases m2 : b.mode = 2
      · simp only [if_pos m2, cond_false]
        by_cases co : 0 < b.over
        · simp only [co, decide_true, cond_true, Option.bind_some]
        by_cases cv : s.top < b.v
        · simp only [co, cv, decide_false, decide_true, cond_false, cond_true, Option.bind_some]
        simp only [co, cv, decide_false, cond_false, Option.bind_some]
        obtain ⟨h1, hv, hst, hb, hl, h4, h5, h2, h3⟩ := hok rfl
        obtain ⟨-, f1, f2, -⟩ := hfit ce
        have hh := hb.heads (.inl m2)
        obtain ⟨h, hx, hx'⟩ := last_idx (l := b.trail) hh.ne (by omega)
        have hlast : b.trail.getLast? = some h := by rw [List.getLast?_eq_getElem?]; exact hx'
        have hsig := hv.few.signals
        simp only [hx, Option.bind_some, g_R6_Reads_eq p (show p.signals.length < 1000000 by omega)]
        by_cases cr : readsP p h < 0
        · simp only [cr, decide_true, cond_true, Option.bind_some]
        simp only [cr, decide_false, cond_false]
        have go : ¬ (b.left ≤ p.margin ∧ 0 < b.v) → ((g_L24_made p pos [] s b).bind fun y120 => optM y120 (some false) fun z122 => (mkI (p.signals.length : Int) 0).bind fun y125 => loopR (g_L24_LoopStops_l1 pos s wants h z122 y125) (0, b.mode, b.trail, b.left, b.over, b.v)) = some true := by
          intro hc
          obtain ⟨n, hn, hno⟩ := made_ok (lamps := []) h1 h2 h3 h4 h5 hl
          have hmk : mkI (p.signals.length : Int) (0 : Int) = some (List.replicate p.signals.length 0) := by
            unfold mkI
            rw [if_pos (by omega)]; simp
          simp only [hn, Option.bind_some, optM, hmk]
          have hm0 := hv.args.margin
          have hov := hb.over
          have hvv := hb.v
          have hS0 : SafeB p s h b.mode b.trail b.left b.over b.v := by
            refine ⟨m2, by omega, hlast, hl, hb.left, by omega, ?_⟩
            by_cases c1 : p.margin < b.left
            · exact .inl c1
            · refine .inr fun j => ?_
              have := hst.brake; have := hb.left
              rw [stopM_neg (by omega)]; omega
          obtain ⟨q, hq, rfl⟩ := loop_st (l := wants) (step := g_L24_LoopStops_l1 pos s wants h n (List.replicate p.signals.length 0)) (Post := fun q => q = true) (fun i c => SafeB p s h c.1 c.2.1 c.2.2.1 c.2.2.2.1 c.2.2.2.2)
            (fun c _ => ⟨true, by simp only [g_L24_LoopStops_l1, dge, cond_false], rfl⟩)
            (fun i w c hi hS => by
              right
              obtain ⟨tr, l', v', hstep, hS'⟩ := safe_step hno hv hst f1 f2 (h := h) (by omega) (List.replicate p.signals.length 0) pos shut_zeros hS w
              obtain ⟨g1, g2⟩ := last_get hS'.hlen hS'.hlast
              have := ilt hi
              refine ⟨(2, tr, l', 0, v'), ?_, hS'⟩
              simp only [g_L24_LoopStops_l1, dlt hi, cond_true, idx_nat, hi, Option.bind_some, hstep, bne_self_eq_false, cond_false, g1, g2, show decide ((0 : Int) < 0) = false by decide, beq_self_eq_true, Bool.not_true, wi64_succ (show i < 1000000000 by omega)]) (c := (b.mode, b.trail, b.left, b.over, b.v)) hS0
          exact hq
        by_cases c1 : b.left ≤ p.margin
        · simp only [c1, decide_true, cond_true, Option.bind_some]
          by_cases c2 : 0 < b.v
          · simp only [c2, decide_true, cond_true]
          · simp only [c2, decide_false, cond_false]
            exact go (by omega)
        · simp only [c1, decide_false, cond_false, Option.bind_some]
          exact go (by omega)
      · simp only [if_neg m2, cond_true, Option.bind_some]
    · simp only [if_neg ce, cond_true, Option.bind_some]

theorem At_eq (p : Plan) (i : Int) : g_R6_At p i = some (match idx p.signals i with
    | some g => (g.at_, true)
    | none => (⟨0, 0⟩, false)) := by
  unfold g_R6_At
  by_cases h1 : i < 0
  · simp [h1, idx_none (.inl h1)]
  · by_cases h2 : (p.signals.length : Int) ≤ i
    · simp [h1, h2, idx_none (.inr h2)]
    · obtain ⟨a, ha⟩ := idx_of (l := p.signals) (n := i) (by omega) (by omega)
      simp [h1, h2, ha]

theorem LoopNears_true (p : Plan) (s : Stock) (signal into v : Int) (wants : List Int) (hs : s.name.size ≤ 9223372036854775807) (hi : (Lit.int .u8 into).wf = true) (hv8 : (Lit.int .u8 v).wf = true) : g_L24_LoopNears p s signal into v wants = some true := by
  have hi' : 0 ≤ into ∧ into ≤ 255 := by simpa [Lit.wf, IntKind.min, IntKind.max, IntKind.signed, IntKind.bits] using hi
  have hv' : 0 ≤ v ∧ v ≤ 255 := by simpa [Lit.wf, IntKind.min, IntKind.max, IntKind.signed, IntKind.bits] using hv8
  have e1 : wi64 into = into := by rw [wi64_id] <;> omega
  have e2 : wi64 v = v := by rw [wi64_id] <;> omega
  unfold g_L24_LoopNears
  simp only [known_holds, Option.bind_some, Bool.not_true, cond_false, e1, e2]
  by_cases c0 : (100 : Int) < (wants.length : Int)
  · simp only [c0, decide_true, cond_true, Option.bind_some]
  obtain ⟨f, hf, hfine⟩ := fine_total p
  obtain ⟨e, he, hfit⟩ := Check_one p s hs
  simp only [c0, decide_false, cond_false, hf, Option.bind_some]
  cases f with
  | false => simp only [Bool.not_false, cond_true, Option.bind_some]
  | true =>
    have hv := hfine rfl
    simp only [Bool.not_true, cond_false, he, Option.bind_some, cbne]
    by_cases ce : e = 0
    · obtain ⟨hst, f1, f2, -⟩ := hfit ce
      simp only [if_pos ce, cond_false, At_eq, Option.bind_some, g_R6_Kind_eq]
      cases hsg : idx p.signals signal with
      | none => simp only [Bool.not_false, cond_true, Option.bind_some]
      | some g =>
        obtain ⟨q1, q2⟩ := idx_at hsg
        simp only [Bool.not_true, cond_false]
        by_cases k1 : kindP p g.at_.elem = 1
        · by_cases a1 : s.top < v
          · simp only [k1, a1, if_true, decide_true, cond_false, cond_true, Option.bind_some]
          by_cases a2 : into < 1
          · simp only [k1, a1, a2, if_true, decide_true, decide_false, cond_false, cond_true, Option.bind_some]
          by_cases a3 : v < into
          · simp only [k1, a1, a2, a3, if_true, decide_true, decide_false, cond_false, cond_true, Option.bind_some]
          simp only [k1, a1, a2, a3, if_true, decide_false, cond_false, Option.bind_some, g_R6_Length_eq]
          obtain ⟨o, ho, hn⟩ := made_total p
          obtain ⟨n, rfl, hno⟩ := hn hf
          have hsig := hv.few.signals
          have hmk : mkI (p.signals.length : Int) (0 : Int) = some (List.replicate p.signals.length 0) := by
            unfold mkI
            rw [if_pos (by omega)]; simp
          have hlen := hv.long.signal _ g q1 k1
          obtain ⟨l1, l2, -⟩ := lengthP_le hv.args g.at_.elem
          have hr : readsP p g.at_ = ((signal.toNat : Nat) : Int) := hv.sig.reads _ g q1
          have hm0 := margin_stop hv (v := v) (b := s.brake) (by omega) f2 0
          simp only [stopM] at hm0
          have e3 : wi64 (lengthP p g.at_.elem - into) = lengthP p g.at_.elem - into := by rw [wi64_id] <;> omega
          simp only [ho, Option.bind_some, optM, hmk, e3]
          have hst1 : StockOK ⟨s.name, 1, s.top, s.acc, s.brake⟩ := ⟨by simp, hst.top, hst.acc, hst.brake⟩
          have ht1 := hst.top
          have hS0 : SafeB p ⟨s.name, 1, s.top, s.acc, s.brake⟩ g.at_ 2 [g.at_] (lengthP p g.at_.elem - into) 0 v := by
            refine ⟨rfl, rfl, rfl, by simp, by omega, by simp only; omega, .inr fun j => ?_⟩
            have := margin_stop hv (v := v) (b := s.brake) (by omega) f2 j
            simp only
            omega
          obtain ⟨q, hq, rfl⟩ := loop_st (l := wants) (step := g_L24_LoopNears_l1 s wants (g.at_, true) n (List.replicate p.signals.length 0)) (Post := fun q => q = true) (fun i c => SafeB p ⟨s.name, 1, s.top, s.acc, s.brake⟩ g.at_ c.1 c.2.1 c.2.2.1 c.2.2.2.1 c.2.2.2.2)
            (fun c _ => ⟨true, by simp only [g_L24_LoopNears_l1, dge, cond_false], rfl⟩)
            (fun i w c hi hS => by
              right
              obtain ⟨tr, l', v', hstep, hS'⟩ := safe_step hno hv hst1 f1 f2 (h := g.at_) (by omega) (List.replicate p.signals.length 0) [] shut_zeros hS w
              obtain ⟨g1, g2⟩ := last_get hS'.hlen hS'.hlast
              have := ilt hi
              refine ⟨(2, tr, l', 0, v'), ?_, hS'⟩
              simp only [g_L24_LoopNears_l1, dlt hi, cond_true, idx_nat, hi, Option.bind_some, hstep, bne_self_eq_false, cond_false, g1, g2, beq_self_eq_true, Bool.not_true, wi64_succ (show i < 1000000000 by omega)]) (c := (2, [g.at_], lengthP p g.at_.elem - into, 0, v)) hS0
          exact hq
        · simp only [if_neg k1, cond_true, Option.bind_some]
    · simp only [if_neg ce, cond_true, Option.bind_some]

end Go.E
/- Plain Lean: LoopGates answers true, for every argument. Condition: the name of the stock has at most 2^63 - 1 bytes, as every text has. -/
namespace Go.E
open Go

theorem LoopGates_true (p : Plan) (pos lamps : List Int) (s : Stock) (gate want : Int) (first : Bool) (hs : s.name.size ≤ 9223372036854775807) : g_L24_LoopGates p pos lamps s gate want first = some true := by
  unfold g_L24_LoopGates
  simp only [known_holds, Option.bind_some, Bool.not_true, cond_false]
  generalize hbe : (⟨1, [⟨gate, 0⟩], 0, 0, 0⟩ : Body) = b
  have bm : b.mode = 1 := by rw [← hbe]
  have bt : b.trail = [⟨gate, 0⟩] := by rw [← hbe]
  have bv : b.v = 0 := by rw [← hbe]
  obtain ⟨r, hr, hok⟩ := asked_total p pos lamps s b hs
  simp only [hr, Option.bind_some]
  cases r with
  | false => simp only [Bool.not_false, cond_true]
  | true =>
    obtain ⟨h1, hv, hst, hb, hl, h4, h5, h2, h3⟩ := hok rfl
    obtain ⟨n, hn, hno⟩ := made_ok h1 h2 h3 h4 h5 hl
    obtain ⟨h, w1, w2, w3⟩ := hb.waits bm
    rw [bt] at w1
    obtain rfl : h = ⟨gate, 0⟩ := by simpa using w1.symm
    have hr0 := gate_reads hv w2 w3
    have hsig := hv.few.signals
    -- the head's next
    have hh : hasP p ⟨gate, 0⟩ = true := by simp only at w3; simp [hasP, w3, endsF]
    obtain ⟨el, hel, hke⟩ := hasP_idx hh
    obtain ⟨q1, q2⟩ := idx_at hel
    obtain ⟨y, hy, hyk⟩ := hv.join.gate _ el q1 (by rw [← hke]; exact w3)
    have hnx : nextP p ⟨gate, 0⟩ = some y := (congrArg (nextP p) (congrArg (fun z => (⟨z, 0⟩ : Port)) q2)).trans hy
    obtain ⟨x, ⟨x1, -⟩, x3, x4⟩ := Move_eq hno hv hb hl pos (speedF s b.v want (forcedF p lamps b first))
    have hmode := x4 bm _ y bt hnx
    have s1 : g_loop_Step n pos lamps s b want first = some x := by
      unfold g_loop_Step
      simp only [loop_Forced_eq hno hv hb (show b.trail.length < 1000000 by omega), Option.bind_some, pace_Next_eq hst, x1]
    have hF : forcedF p lamps b first = (!first || shutF lamps (readsP p ⟨gate, 0⟩)) := by
      unfold forcedF
      rw [bt]
      simp only [List.length_cons, List.length_nil, Nat.zero_add, Nat.sub_self, List.getElem?_cons_zero, bm, if_true]
    simp only [hn, Option.bind_some, Bool.not_true, cond_false, optM, g_R6_Reads_eq p (show p.signals.length < 1000000 by omega), s1, R6_Step_eq hv, hnx, if_neg hyk]
    -- the lamp
    have hfree : ((bif first then bif decide (0 ≤ readsP p ⟨gate, 0⟩) then bif decide (readsP p ⟨gate, 0⟩ < (lamps.length : Int)) then (idx lamps (readsP p ⟨gate, 0⟩)).bind fun y52 => bif (y52 == 1) then some true else (idx lamps (readsP p ⟨gate, 0⟩)).bind fun y56 => some (y56 == 2) else some false else some false else some false : Option Bool)) = some (!(forcedF p lamps b first)) := by
      rw [hF]
      cases first with
      | false => rfl
      | true =>
        simp only [cond_true, hr0, decide_true, Bool.not_true, Bool.false_or]
        unfold shutF
        by_cases c : readsP p ⟨gate, 0⟩ < (lamps.length : Int)
        · obtain ⟨a, ha⟩ := idx_of (l := lamps) (n := readsP p ⟨gate, 0⟩) hr0 c
          simp only [c, decide_true, cond_true, ha, Option.bind_some, cbeq, passesF]
          by_cases p1 : a = 1
          · simp [p1]
          · by_cases p2 : a = 2
            · simp [p2]
            · have : (a == 2) = false := beq_eq_false_iff_ne.2 p2
              simp [p1, p2, this]
        · simp [c, idx_none (.inr (show (lamps.length : Int) ≤ readsP p ⟨gate, 0⟩ by omega))]
    rw [hfree]
    simp only [Option.bind_some]
    -- the speed
    have t1 := hst.top; have t2 := hst.acc; have t3 := hst.brake
    have hsp : speedF s b.v want (forcedF p lamps b first) = 0 ↔ (forcedF p lamps b first = true ∨ ¬ 0 < want) := by
      rw [bv]
      cases forcedF p lamps b first with
      | true =>
        simp only [true_or, iff_true]
        unfold speedF heldF
        simp only [if_true]
        repeat' split
        all_goals omega
      | false =>
        simp only [Bool.false_eq_true, false_or]
        unfold speedF heldF
        simp only [Bool.false_eq_true, if_false]
        repeat' split
        all_goals omega
    have hle := speedF_le hst b.v want (forcedF p lamps b first)
    have hheld : heldF (speedF s b.v want (forcedF p lamps b first)) 0 60 = speedF s b.v want (forcedF p lamps b first) := by
      generalize speedF s b.v want (forcedF p lamps b first) = z at hle ⊢
      unfold heldF
      repeat' split
      all_goals omega
    rw [hheld, hsp] at hmode
    generalize forcedF p lamps b first = fo at *
    cases fo with
    | true =>
      have : x.mode = 1 := hmode.2 (.inl (.inl rfl))
      simp [this]
    | false =>
      simp only [Bool.not_false, cond_true]
      by_cases cw : 0 < want
      · simp only [cw, decide_true, cond_true]
        cases hgo : goP p pos y with
        | none =>
          have : x.mode = 1 := hmode.2 (.inr hgo)
          simp [this]
        | some o =>
          have : ¬ x.mode = 1 := fun h => by
            rcases hmode.1 h with (h | h) | h
            · cases h
            · exact h cw
            · rw [hgo] at h; cases h
          have hne : (x.mode != 1) = true := bne_iff_ne.2 this
          simp [hne]
      · have : x.mode = 1 := hmode.2 (.inl (.inr cw))
        simp [cw, this]

end Go.E
