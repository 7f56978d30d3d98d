/- Plain Lean: the document's check answers of every plan that is not too long; what a plan is that it takes (Valid). No condition. -/
import Derived.KernelRfl
import Derived.Test.YtdppdkjoaanpnaaGreatJ5
set_option linter.unusedVariables false
set_option linter.unusedSimpArgs false
namespace Go.E
open Go

structure LineP (p : Plan) : Prop where
  line : ∀ (i : Nat) l, p.lines[i]? = some l → LineOK p l.elems
  once : (p.lines.flatMap (·.elems)).Nodup

theorem lines_total (p : Plan) (hf : FewP p) (hj : JoinP p) : ∃ b, g_R6_lines p = some b ∧ (b = true → LineP p) := by
  have q1 := hf.lines
  have len : ∀ k, ((p.lines.take k).flatMap (·.elems)).length ≤ 60 * k := by
    intro k
    induction k with
    | zero => simp
    | succ k ih =>
      cases h : p.lines[k]? with
      | none =>
        have : p.lines.take (k + 1) = p.lines.take k := by
          have := List.getElem?_eq_none_iff.1 h
          rw [List.take_of_length_le (by omega), List.take_of_length_le (by omega)]
        rw [this]; omega
      | some l =>
        rw [take_flat_succ h, List.length_append]
        have := (hf.line k l h).1
        omega
  unfold g_R6_lines
  refine loop_st (l := p.lines) (fun k c => c = (p.lines.take k).flatMap (·.elems) ∧ c.Nodup ∧ ∀ (i : Nat) l, i < k → p.lines[i]? = some l → LineOK p l.elems) (fun c hc => ?_) (fun i a c ha hc => ?_) (c := []) ⟨rfl, List.nodup_nil, fun i l h => by omega⟩
  · rw [List.take_length] at hc
    exact ⟨true, by simp only [g_R6_lines_l1, dge, cond_false], fun _ => ⟨fun i l hl => hc.2.2 i l (ilt hl) hl, hc.1 ▸ hc.2.1⟩⟩
  · obtain ⟨hc, hn, hp⟩ := hc
    have hi := ilt ha
    have hlen := len i
    have hal := (hf.line i a ha).1
    simp only [g_R6_lines_l1, dlt ha, cond_true, idx_nat, ha, Option.bind_some]
    have key : ∃ r, loopR (g_R6_lines_l2 p ((i : Int), c) a) (0, c) = some r ∧ (r = .inr false ∨ ∃ c', r = .inl (((i + 1 : Nat) : Int), c') ∧ c' = c ++ a.elems ∧ c'.Nodup ∧ LineOK p a.elems) := by
      refine loop_st (l := a.elems) (fun k d => d = c ++ a.elems.take k ∧ d.Nodup) (fun d hd => ?_) (fun k e d he hd => ?_) (c := c) ⟨by simp, hn⟩
      · rw [List.take_length] at hd
        obtain ⟨b, hb, hb'⟩ := enters_total p hf hj a.elems hal
        simp only [g_R6_lines_l2, dge, cond_false, hb, Option.bind_some, wi64_succ (show i < 1000000000 by omega)]
        cases hq : b.2 with
        | false => exact ⟨.inr false, rfl, .inl rfl⟩
        | true => exact ⟨_, rfl, .inr ⟨d, rfl, hd.1, hd.2, hb' hq⟩⟩
      · have hk := ilt he
        have hdl : d.length ≤ 60 * i + 60 := by rw [hd.1, hc, List.length_append, List.length_take]; omega
        obtain ⟨b, hb, hb'⟩ := In_total d e (by omega)
        simp only [g_R6_lines_l2, dlt he, cond_true, idx_nat, he, Option.bind_some, hb, wi64_succ (show k < 1000000000 by omega)]
        cases b with
        | true => exact .inl ⟨.inr false, rfl, .inl rfl⟩
        | false =>
          refine .inr ⟨d ++ [e], by rw [appI_ok (by simp; omega)]; rfl, ?_, ?_⟩
          · rw [hd.1, List.append_assoc, List.take_add_one, he]; rfl
          · rw [List.nodup_append]
            exact ⟨hd.2, by simp, fun x hx y hy => by simp at hy; subst hy; rintro rfl; exact hb' rfl hx⟩
    obtain ⟨r, hr, h⟩ := key
    rcases h with rfl | ⟨c', rfl, h1, h2, h3⟩
    · exact .inl ⟨false, hr, by simp⟩
    · refine .inr ⟨c', hr, by rw [h1, hc, take_flat_succ ha], h2, fun j l hj' hl => ?_⟩
      by_cases e : j = i
      · subst e; rw [ha] at hl; cases hl; exact h3
      · exact hp j l (by omega) hl

/-! ### lengths -/
theorem stop_total (v b : Int) : ∃ n, g_R6_Stop v b = some n ∧ 0 ≤ n ∧ n ≤ 3600 := by
  unfold g_R6_Stop
  by_cases h : v < 0 ∨ 60 < v ∨ b < 1 ∨ 10 < b
  · refine ⟨0, ?_, by omega, by omega⟩
    by_cases h1 : v < 0
    · simp [h1]
    · by_cases h2 : 60 < v
      · simp [h1, h2]
      · by_cases h3 : b < 1
        · simp [h1, h2, h3]
        · have h4 : 10 < b := by omega
          simp [h1, h2, h3, h4]
  · have h1 : ¬ v < 0 := by omega
    have h2 : ¬ 60 < v := by omega
    have h3 : ¬ b < 1 := by omega
    have h4 : ¬ 10 < b := by omega
    simp only [h1, h2, h3, h4, decide_false, cond_false, Option.bind_some]
    rw [wi64_id (n := v - b) (by omega) (by omega)]
    refine loop_up (fun k s => s.1 ≤ 60 - (k : Int) ∧ -10 ≤ s.1 ∧ 0 ≤ s.2 ∧ s.2 ≤ 60 * (k : Int) ∧ k ≤ 60) 61 ?_ ⟨show v - b ≤ 60 - ((0 : Nat) : Int) by omega, show -10 ≤ v - b by omega, by simp, by simp, by omega⟩
    rintro k ⟨x, n⟩ ⟨a1, a2, a3, a4, a5⟩
    simp only at a1 a2 a3 a4
    by_cases hx : 0 < x
    · refine .inr ⟨by omega, (x - b, n + x), by simp only [g_R6_Stop_l1, hx, decide_true, cond_true, wi64_id (n := x - b) (by omega) (by omega), wi64_id (n := n + x) (by omega) (by omega)], show x - b ≤ 60 - ((k + 1 : Nat) : Int) by omega, show -10 ≤ x - b by omega, show 0 ≤ n + x by omega, show n + x ≤ 60 * ((k + 1 : Nat) : Int) by omega, by omega⟩
    · exact .inl ⟨n, by simp only [g_R6_Stop_l1, hx, decide_false, cond_false], a3, by omega⟩

structure LongP (p : Plan) : Prop where
  stop : ∀ n, g_R6_Stop p.top p.brake = some n → p.top + n ≤ p.margin
  signal : ∀ (i : Nat) s, p.signals[i]? = some s → kindP p s.at_.elem = 1 → p.margin ≤ lengthP p s.at_.elem
  elem : ∀ (i : Nat) e, p.elems[i]? = some e → e.kind ≠ 4 → p.top ≤ e.length

theorem long_total (p : Plan) (hf : FewP p) (ha : ArgsP p) : ∃ b, g_R6_long p = some b ∧ (b = true → LongP p) := by
  have q1 := hf.elems; have q3 := hf.signals; have q4 := ha.top
  obtain ⟨n, hn, n1, n2⟩ := stop_total p.top p.brake
  unfold g_R6_long
  simp only [hn, Option.bind_some]
  rw [wi64_id (n := p.top + n) (by omega) (by omega)]
  by_cases h : p.margin < p.top + n
  · exact ⟨false, by simp [h], by simp⟩
  · have hd : decide (p.margin < p.top + n) = false := by simpa using h
    simp only [hd, cond_false]
    refine loop_ix (l := p.signals) (fun i s => kindP p s.at_.elem = 1 → p.margin ≤ lengthP p s.at_.elem) (fun g => ?_) (fun i s hs _ => ?_)
    · obtain ⟨b, hb, hg⟩ : ∃ b, loopR (g_R6_long_l2 p) 0 = some b ∧ (b = true → LongP p) := by
        refine loop_ix (l := p.elems) (fun i e => e.kind ≠ 4 → p.top ≤ e.length) (fun g2 => ?_) (fun i e he _ => ?_)
        · exact ⟨true, by simp only [g_R6_long_l2, dge, cond_false], fun _ => ⟨fun m hm => by rw [hn] at hm; cases hm; omega, g, g2⟩⟩
        · have := ilt he
          simp only [g_R6_long_l2, dlt he, cond_true, idx_nat, he, Option.bind_some, cbne, wi64_succ (show i < 1000000000 by omega)]
          by_cases hk : e.kind = 4
          · exact .inr ⟨by simp [hk], fun h => absurd hk h⟩
          · by_cases hl : e.length < p.top
            · exact .inl ⟨false, by simp [hk, hl], by simp⟩
            · exact .inr ⟨by simp [hk, hl], fun _ => by omega⟩
      exact ⟨b, by simp only [g_R6_long_l1, dge, cond_false, hb]; rfl, hg⟩
    · have := ilt hs
      simp only [g_R6_long_l1, dlt hs, cond_true, idx_nat, hs, Option.bind_some, cbeq, g_R6_kind_eq, g_R6_Length_eq, wi64_succ (show i < 1000000000 by omega)]
      by_cases hk : kindP p s.at_.elem = 1
      · by_cases hl : lengthP p s.at_.elem < p.margin
        · exact .inl ⟨false, by simp [hk, hl], by simp⟩
        · exact .inr ⟨by simp [hk, hl], fun _ => by omega⟩
      · exact .inr ⟨by simp [hk], fun h => absurd h hk⟩

/-! ### the whole -/
/-- A plan that the document's check takes. -/
structure Valid (p : Plan) : Prop where
  few : FewP p
  ne : p.elems.length ≤ 40
  ns : p.signals.length ≤ 24
  nl : p.lines.length ≤ 4
  nj : p.joins.length ≤ 80
  args : ArgsP p
  n1 : Apart (p.elems.map (·.name))
  n2 : Apart (p.signals.map (·.name))
  n3 : Apart (p.lines.map (·.name))
  join : JoinP p
  sig : SigP p
  line : LineP p
  long : LongP p

theorem check_total (p : Plan) (hf : FewP p) : ∃ r, g_R6_Check p = some r ∧ (r = 0 → Valid p) := by
  have q1 := hf.elems; have q2 := hf.joins; have q3 := hf.signals; have q4 := hf.lines
  unfold g_R6_Check
  by_cases a1 : (40 : Int) < p.elems.length
  · exact ⟨3, by simp [a1], fun h => absurd h (by decide)⟩
  by_cases a2 : (24 : Int) < p.signals.length
  · exact ⟨3, by simp [a1, a2], fun h => absurd h (by decide)⟩
  by_cases a3 : (4 : Int) < p.lines.length
  · exact ⟨3, by simp [a1, a2, a3], fun h => absurd h (by decide)⟩
  by_cases a4 : (80 : Int) < p.joins.length
  · exact ⟨3, by simp [a1, a2, a3, a4], fun h => absurd h (by decide)⟩
  simp only [a1, a2, a3, a4, decide_false, cond_false, Option.bind_some, names_eq p hf]
  obtain ⟨b1, h1, g1⟩ := args_total p hf
  simp only [h1, Option.bind_some]
  cases b1 with
  | false => exact ⟨1, rfl, fun h => absurd h (by decide)⟩
  | true =>
    obtain ⟨t1, k1, m1⟩ := twice_total (p.elems.map (·.name)) (by simp; omega)
    obtain ⟨t2, k2, m2⟩ := twice_total (p.signals.map (·.name)) (by simp; omega)
    obtain ⟨t3, k3, m3⟩ := twice_total (p.lines.map (·.name)) (by simp; omega)
    simp only [k1, k2, k3, Option.bind_some, Bool.not_true, cond_false]
    cases t1 with
    | true => exact ⟨4, rfl, fun h => absurd h (by decide)⟩
    | false =>
      cases t2 with
      | true => exact ⟨4, rfl, fun h => absurd h (by decide)⟩
      | false =>
        cases t3 with
        | true => exact ⟨4, rfl, fun h => absurd h (by decide)⟩
        | false =>
          obtain ⟨b2, h2, g2⟩ := joined_total p hf
          simp only [h2, Option.bind_some, cond_false]
          cases b2 with
          | false => exact ⟨6, rfl, fun h => absurd h (by decide)⟩
          | true =>
            obtain ⟨b3, h3, g3⟩ := signals_total p hf
            simp only [h3, Option.bind_some, Bool.not_true, cond_false]
            cases b3 with
            | false => exact ⟨7, rfl, fun h => absurd h (by decide)⟩
            | true =>
              obtain ⟨b4, h4, g4⟩ := lines_total p hf (g2 rfl)
              simp only [h4, Option.bind_some, Bool.not_true, cond_false]
              cases b4 with
              | false => exact ⟨8, rfl, fun h => absurd h (by decide)⟩
              | true =>
                obtain ⟨b5, h5, g5⟩ := long_total p hf (g1 rfl)
                simp only [h5, Option.bind_some, Bool.not_true, cond_false]
                cases b5 with
                | false => exact ⟨9, rfl, fun h => absurd h (by decide)⟩
                | true => exact ⟨0, rfl, fun _ => ⟨hf, by omega, by omega, by omega, by omega, g1 rfl, m1 rfl, m2 rfl, m3 rfl, g2 rfl, g3 rfl, g4 rfl, g5 rfl⟩⟩

theorem fine_total (p : Plan) : ∃ b, g_R6_Fine p = some b ∧ (b = true → Valid p) := by
  obtain ⟨b, hb, hf⟩ := few_total p
  unfold g_R6_Fine
  simp only [hb, Option.bind_some]
  cases b with
  | false => exact ⟨false, rfl, by simp⟩
  | true =>
    obtain ⟨r, hr, hv⟩ := check_total p (hf rfl)
    simp only [hr, Option.bind_some, cond_true]
    exact ⟨r == 0, rfl, fun h => hv (by simpa using h)⟩

end Go.E
/- Plain Lean: the program's check takes each valid plan: numbers, names, joins. No condition. -/
namespace Go.E
open Go

section
variable {κ υ : Type} [BEq κ] [PartialEquivBEq κ]
theorem assoc_aput (x : κ) (v : υ) (y : κ) : ∀ m : List (κ × υ), (x == x) = true → assoc (aput x v m) y = if y == x then some v else assoc m y
  | [], _ => by simp [aput, assoc]
  | p :: m, hx => by
    simp only [aput]
    by_cases h : (x == p.1) = true
    · simp only [h, if_true, assoc]
      by_cases h2 : (y == p.1) = true
      · have : (y == x) = true := PartialEquivBEq.trans h2 (PartialEquivBEq.symm h)
        simp [h2, this]
      · have : ¬ (y == x) = true := fun h3 => h2 (PartialEquivBEq.trans h3 h)
        simp [h2, this]
    · simp only [h, if_false, assoc, Bool.false_eq_true]
      rw [assoc_aput x v y m hx]
      by_cases h2 : (y == p.1) = true
      · have : ¬ (y == x) = true := fun h3 => h (PartialEquivBEq.trans (PartialEquivBEq.symm h3) h2)
        simp [h2, this]
      · simp [h2]

end

theorem assoc_aput' {κ υ : Type} [DecidableEq κ] (x : κ) (v : υ) (y : κ) (m : List (κ × υ)) : assoc (aput x v m) y = if y = x then some v else assoc m y := by
  rw [assoc_aput x v y m (by simp)]
  by_cases h : y = x <;> simp [h]

instance : PartialEquivBEq ByteArray where
  symm {a b} h := by
    have : (a.toList == b.toList) = true := h
    show (b.toList == a.toList) = true
    simpa using (by simpa using this : a.toList = b.toList).symm
  trans {a b c} h g := by
    have h' : (a.toList == b.toList) = true := h
    have g' : (b.toList == c.toList) = true := g
    show (a.toList == c.toList) = true
    simp only [beq_iff_eq] at h' g' ⊢
    exact h'.trans g'
/-! ### names -/
theorem g_word_letter_eq (c : UInt8) : g_word_letter (c.toNat : Int) = some (letterF c) := by
  unfold g_word_letter letterF
  cases decide (97 ≤ (c.toNat : Int)) <;> cases decide ((c.toNat : Int) ≤ 122) <;> cases decide (65 ≤ (c.toNat : Int)) <;> cases decide ((c.toNat : Int) ≤ 90) <;> rfl

theorem toList_size (s : ByteArray) : s.toList.length = s.size := by
  have key : ∀ (n i : Nat) (r : List UInt8), s.size - i ≤ n → (ByteArray.toList.loop s i r).length = (s.size - i) + r.length := by
    intro n
    induction n with
    | zero =>
      intro i r h
      unfold ByteArray.toList.loop
      rw [if_neg (by omega)]; simp; omega
    | succ n ih =>
      intro i r h
      unfold ByteArray.toList.loop
      split
      · rw [ih (i + 1) _ (by omega)]; simp; omega
      · simp; omega
  have := key s.size 0 [] (by omega)
  show (ByteArray.toList.loop s 0 []).length = s.size
  rw [this]; simp

theorem word_name_ok (s : ByteArray) (h : NameOK s) : g_word_Name s = some true := by
  have h1 := h.pos; have h2 := h.le
  have e0 : (s.toList == ByteArray.empty.toList) = false := by
    rw [beq_eq_false_iff_ne]
    intro e
    have h0 : s.toList.length = ByteArray.empty.size := by rw [e, toList_size]
    rw [toList_size, show ByteArray.empty.size = 0 from rfl] at h0
    omega
  have e1 : decide ((8 : Int) < s.size) = false := by simp; omega
  have c0 : s[0]? = some s[0] := getElem?_pos s 0 (by omega)
  have x0 : idxS s 0 = some s[0] := c0
  have l0 : letterF s[0] = true := by
    rcases h.chars 0 _ c0 with h | ⟨h, _⟩
    · exact h
    · exact absurd rfl h
  unfold g_word_Name
  simp only [e0, e1, cond_false, x0, Option.bind_some, g_word_letter_eq, l0, Bool.not_true]
  obtain ⟨b, hb, rfl⟩ := loop_bytes (s := s) (step := g_word_Name_l1 s) (Post := fun b => b = true) (fun _ _ => True) 1 (by omega)
    (fun _ => ⟨true, by have : decide ((s.size : Int) < s.size) = false := by simp
                        simp only [g_word_Name_l1, this, cond_false], rfl⟩) (fun i c hi hc => by
      have hlt : i < s.size := by
        by_cases h : i < s.size
        · exact h
        · rw [getElem?_neg s i h] at hc; cases hc
      have hd : decide ((i : Int) < s.size) = true := by simpa using hlt
      have hx : idxS s (i : Int) = some c := hc
      refine .inr ⟨?_, trivial⟩
      simp only [g_word_Name_l1, hd, cond_true, hx, Option.bind_some, g_word_letter_eq, wi64_succ (show i < 1000000000 by omega)]
      rcases h.chars i c hc with h | ⟨_, h⟩
      · simp [h]
      · cases hL : letterF c with
        | true => simp
        | false =>
          simp only [digitF, Bool.and_eq_true, decide_eq_true_eq] at h
          have g1 : ¬ (c.toNat : Int) < 48 := by omega
          have g2 : ¬ (57 : Int) < c.toNat := by omega
          simp [g1, g2])
  exact hb

theorem numbers_ok (p : Plan) (hf : FewP p) (ha : ArgsP p) : g_plan_numbers p = some true := by
  have q1 := hf.elems; have q2 := hf.signals; have q3 := hf.lines
  obtain ⟨a1, a2⟩ := ha.top; obtain ⟨b1, b2⟩ := ha.brake; obtain ⟨c1, c2⟩ := ha.margin; obtain ⟨d1, d2⟩ := ha.throw
  have h0 : ((p.elems.length : Int) == 0) = false := by rw [beq_eq_false_iff_ne]; have := ha.one; omega
  unfold g_plan_numbers
  simp only [show ¬ p.top < 1 by omega, show ¬ 60 < p.top by omega, show ¬ p.brake < 1 by omega, show ¬ 10 < p.brake by omega, show ¬ p.margin < 1 by omega, show ¬ 4000 < p.margin by omega,
    show ¬ p.throw < 1 by omega, show ¬ 20 < p.throw by omega, decide_false, cond_false, h0, Option.bind_some]
  have e3 : loopR (g_plan_numbers_l3 p) 0 = some true := by
    obtain ⟨b, hb, rfl⟩ := loop_ix (l := p.lines) (step := g_plan_numbers_l3 p) (Post := fun b => b = true) (fun _ _ => True) (fun _ => ⟨true, by simp only [g_plan_numbers_l3, dge, cond_false], rfl⟩)
      (fun i a h _ => .inr ⟨by have := ilt h; simp only [g_plan_numbers_l3, dlt h, cond_true, idx_nat, h, Option.bind_some, word_name_ok _ (ha.line i a h), wi64_succ (show i < 1000000000 by omega)]; rfl, trivial⟩)
    exact hb
  have e2 : loopR (g_plan_numbers_l2 p) 0 = some true := by
    obtain ⟨b, hb, rfl⟩ := loop_ix (l := p.signals) (step := g_plan_numbers_l2 p) (Post := fun b => b = true) (fun _ _ => True) (fun _ => ⟨true, by simp only [g_plan_numbers_l2, dge, cond_false, e3]; rfl, rfl⟩)
      (fun i a h _ => .inr ⟨by have := ilt h; simp only [g_plan_numbers_l2, dlt h, cond_true, idx_nat, h, Option.bind_some, word_name_ok _ (ha.signal i a h), wi64_succ (show i < 1000000000 by omega)]; rfl, trivial⟩)
    exact hb
  obtain ⟨b, hb, rfl⟩ := loop_ix (l := p.elems) (step := g_plan_numbers_l1 p) (Post := fun b => b = true) (fun _ _ => True) (fun _ => ⟨true, by simp only [g_plan_numbers_l1, dge, cond_false, e2]; rfl, rfl⟩)
    (fun i a h _ => .inr ⟨by
      have := ilt h
      have hk := ha.elem i a h
      simp only [g_plan_numbers_l1, dlt h, cond_true, idx_nat, h, Option.bind_some, word_name_ok _ hk.name, g_plan_Ends_eq, wi64_succ (show i < 1000000000 by omega), cbeq, cbne]
      have e : (endsF a.kind == 0) = false := beq_eq_false_iff_ne.2 hk.ends
      by_cases h4 : a.kind = 4
      · simp only [e, h4, if_true, hk.gate h4]; rfl
      · obtain ⟨l1, l2⟩ := hk.len h4
        simp only [e, if_neg h4, show ¬ a.length < 1 by omega, show ¬ 4000 < a.length by omega, decide_false]; rfl, trivial⟩)
  exact hb

end Go.E
/- Plain Lean: the program's check takes each valid plan: no text twice, joins, signals, lines, lengths. No condition. -/
namespace Go.E
open Go

/-! ### no name twice -/
theorem seen_step {c : List (ByteArray × Bool)} {l : List ByteArray} {i : Nat} {a : ByteArray} (ha : l[i]? = some a)
    (hI : ∀ x, (assoc c x).getD false = true → ∃ (k : Nat) (b : ByteArray), k < i ∧ l[k]? = some b ∧ b.toList = x.toList) :
    ∀ x, (assoc (aput a true c) x).getD false = true → ∃ (k : Nat) (b : ByteArray), k < i + 1 ∧ l[k]? = some b ∧ b.toList = x.toList := by
  intro x hx
  have hr : (a == a) = true := by show (a.toList == a.toList) = true; simp
  rw [assoc_aput a true x c hr] at hx
  by_cases h : (x == a) = true
  · have : (x.toList == a.toList) = true := h
    exact ⟨i, a, by omega, ha, by simpa using (by simpa using this : x.toList = a.toList).symm⟩
  · rw [if_neg h] at hx
    obtain ⟨k, b, hk, h1, h2⟩ := hI x hx
    exact ⟨k, b, by omega, h1, h2⟩

theorem seen_no {c : List (ByteArray × Bool)} {l : List ByteArray} {i : Nat} {a : ByteArray} (ha : l[i]? = some a) (hA : Apart l)
    (hI : ∀ x, (assoc c x).getD false = true → ∃ (k : Nat) (b : ByteArray), k < i ∧ l[k]? = some b ∧ b.toList = x.toList) : (assoc c a).getD false = false := by
  cases h : (assoc c a).getD false with
  | false => rfl
  | true =>
    obtain ⟨k, b, hk, h1, h2⟩ := hI a h
    exact absurd h2.symm (hA i k a b hk ha h1)

theorem twice1 (p : Plan) (hf : FewP p) (hA : Apart (p.elems.map (·.name))) : loopR (g_plan_Check_l1 p) (0, []) = some false := by
  have q := hf.elems
  obtain ⟨b, hb, rfl⟩ := loop_st (l := p.elems) (step := g_plan_Check_l1 p) (Post := fun b => b = false) (fun i c => ∀ x, (assoc c x).getD false = true → ∃ (k : Nat) (b : ByteArray), k < i ∧ (p.elems.map (·.name))[k]? = some b ∧ b.toList = x.toList)
    (fun c _ => ⟨false, by simp only [g_plan_Check_l1, dge, cond_false], rfl⟩) (fun i a c ha hI => by
      have := ilt ha
      have hm : (p.elems.map (·.name))[i]? = some a.name := by simp [ha]
      refine .inr ⟨_, ?_, seen_step hm hI⟩
      simp only [g_plan_Check_l1, dlt ha, cond_true, g_plan_Check_1, idx_nat, ha, Option.bind_some, seen_no hm hA hI, cond_false, wi64_succ (show i < 1000000000 by omega)]) (c := []) (fun x hx => by simp [assoc] at hx)
  exact hb

theorem twice2 (p : Plan) (hf : FewP p) (hA : Apart (p.signals.map (·.name))) : loopR (g_plan_Check_l2 p) (0, []) = some false := by
  have q := hf.signals
  obtain ⟨b, hb, rfl⟩ := loop_st (l := p.signals) (step := g_plan_Check_l2 p) (Post := fun b => b = false) (fun i c => ∀ x, (assoc c x).getD false = true → ∃ (k : Nat) (b : ByteArray), k < i ∧ (p.signals.map (·.name))[k]? = some b ∧ b.toList = x.toList)
    (fun c _ => ⟨false, by simp only [g_plan_Check_l2, dge, cond_false], rfl⟩) (fun i a c ha hI => by
      have := ilt ha
      have hm : (p.signals.map (·.name))[i]? = some a.name := by simp [ha]
      refine .inr ⟨_, ?_, seen_step hm hI⟩
      simp only [g_plan_Check_l2, dlt ha, cond_true, g_plan_Check_2, idx_nat, ha, Option.bind_some, seen_no hm hA hI, cond_false, wi64_succ (show i < 1000000000 by omega)]) (c := []) (fun x hx => by simp [assoc] at hx)
  exact hb

theorem twice3 (p : Plan) (hf : FewP p) (hA : Apart (p.lines.map (·.name))) : loopR (g_plan_Check_l3 p) (0, []) = some false := by
  have q := hf.lines
  obtain ⟨b, hb, rfl⟩ := loop_st (l := p.lines) (step := g_plan_Check_l3 p) (Post := fun b => b = false) (fun i c => ∀ x, (assoc c x).getD false = true → ∃ (k : Nat) (b : ByteArray), k < i ∧ (p.lines.map (·.name))[k]? = some b ∧ b.toList = x.toList)
    (fun c _ => ⟨false, by simp only [g_plan_Check_l3, dge, cond_false], rfl⟩) (fun i a c ha hI => by
      have := ilt ha
      have hm : (p.lines.map (·.name))[i]? = some a.name := by simp [ha]
      refine .inr ⟨_, ?_, seen_step hm hI⟩
      simp only [g_plan_Check_l3, dlt ha, cond_true, g_plan_Check_3, idx_nat, ha, Option.bind_some, seen_no hm hA hI, cond_false, wi64_succ (show i < 1000000000 by omega)]) (c := []) (fun x hx => by simp [assoc] at hx)
  exact hb

/-! ### joins -/
theorem nextL_app (j : Join) (x : Port) : ∀ l : List Join, nextL (l ++ [j]) x = match nextL l x with
    | some y => some y
    | none => if j.a = x then some j.b else if j.b = x then some j.a else none
  | [] => by simp [nextL]
  | k :: l => by
    simp only [List.cons_append, nextL]
    split
    · rfl
    · split
      · rfl
      · exact nextL_app j x l

theorem nextL_none {x : Port} : ∀ {l : List Join}, x ∉ (l.flatMap fun j => [j.a, j.b]) → nextL l x = none
  | [], _ => rfl
  | j :: l, h => by
    simp only [List.flatMap_cons, List.mem_append, List.mem_cons, List.not_mem_nil, or_false, not_or] at h
    obtain ⟨⟨h1, h2⟩, h3⟩ := h
    simp only [nextL]
    rw [if_neg (fun e => h1 e.symm), if_neg (fun e => h2 e.symm)]
    exact nextL_none h3

/-- Where the ports of a join stand. -/
theorem ports_at {p : Plan} {i : Nat} {j : Join} (h : p.joins[i]? = some j) : (portsP p)[2 * i]? = some j.a ∧ (portsP p)[2 * i + 1]? = some j.b := by
  have key : ∀ (l : List Join) (i : Nat), l[i]? = some j → (l.flatMap fun j => [j.a, j.b])[2 * i]? = some j.a ∧ (l.flatMap fun j => [j.a, j.b])[2 * i + 1]? = some j.b := by
    intro l
    induction l with
    | nil => intro i h; simp at h
    | cons k l ih =>
      intro i h
      cases i with
      | zero => cases h; simp
      | succ i =>
        have := ih i (by simpa using h)
        simp only [List.flatMap_cons, List.cons_append, List.nil_append]
        exact ⟨by rw [show 2 * (i + 1) = 2 * i + 1 + 1 by omega]; simpa using this.1, by rw [show 2 * (i + 1) + 1 = 2 * i + 1 + 1 + 1 by omega]; simpa using this.2⟩
  exact key p.joins i h

theorem JoinP.old {p : Plan} (hj : JoinP p) {i : Nat} {j : Join} (h : p.joins[i]? = some j) :
    j.a ∉ ((p.joins.take i).flatMap fun j => [j.a, j.b]) ∧ j.b ∉ ((p.joins.take i).flatMap fun j => [j.a, j.b]) ∧ j.a ≠ j.b := by
  obtain ⟨h1, h2⟩ := ports_at h
  have hlt := ilt h
  have pre : ∀ x, x ∈ ((p.joins.take i).flatMap fun j => [j.a, j.b]) → ∃ k, k < 2 * i ∧ (portsP p)[k]? = some x := by
    intro x hx
    obtain ⟨k, hk⟩ := List.mem_iff_getElem?.1 hx
    have hkl := ilt hk
    rw [flat_len2, List.length_take] at hkl
    refine ⟨k, by omega, ?_⟩
    have : portsP p = ((p.joins.take i).flatMap fun j => [j.a, j.b]) ++ ((p.joins.drop i).flatMap fun j => [j.a, j.b]) := by
      rw [← List.flatMap_append, List.take_append_drop]; rfl
    rw [this, List.getElem?_append_left (by rw [flat_len2, List.length_take]; omega)]
    exact hk
  refine ⟨fun hx => ?_, fun hx => ?_, ?_⟩
  · obtain ⟨k, hk, e⟩ := pre _ hx; exact hj.dist _ _ _ _ hk h1 e rfl
  · obtain ⟨k, hk, e⟩ := pre _ hx; exact hj.dist _ _ _ _ (by omega) h2 e rfl
  · exact hj.dist _ _ _ _ (by omega : 2 * i < 2 * i + 1) h2 h1

theorem next_step {p : Plan} (hj : JoinP p) {i : Nat} {j : Join} (h : p.joins[i]? = some j) {c : List (Port × Port)} (hI : ∀ x, assoc c x = nextL (p.joins.take i) x) :
    ∀ x, assoc (aput j.b j.a (aput j.a j.b c)) x = nextL (p.joins.take (i + 1)) x := by
  intro x
  obtain ⟨o1, o2, o3⟩ := hj.old h
  rw [assoc_aput', assoc_aput', List.take_add_one, h]
  simp only [Option.toList_some]
  rw [nextL_app, hI]
  by_cases h1 : x = j.b
  · subst h1
    rw [if_pos rfl, nextL_none o2]
    simp [o3]
  · rw [if_neg h1]
    by_cases h2 : x = j.a
    · subst h2
      rw [if_pos rfl, nextL_none o1]
      simp
    · rw [if_neg h2, if_neg (fun e => h2 e.symm), if_neg (fun e => h1 e.symm)]
      cases nextL (p.joins.take i) x <;> rfl

theorem hasP_idx {p : Plan} {x : Port} (h : hasP p x = true) : ∃ e, idx p.elems x.elem = some e ∧ kindP p x.elem = e.kind := by
  obtain ⟨h1, h2, h3⟩ := hasP_fin h
  cases hi : idx p.elems x.elem with
  | none => simp only [kindP, hi] at h3; simp [endsF] at h3; omega
  | some e => exact ⟨e, rfl, by simp [kindP, hi]⟩

theorem plan_joined_ok (p : Plan) (hf : FewP p) (hj : JoinP p) : ∃ m, g_plan_joined p = some (m, true) ∧ ∀ x, assoc m x = nextP p x := by
  have q1 := hf.elems; have q2 := hf.joins
  unfold g_plan_joined
  have gates : ∀ s : Int × List (Port × Port), (∀ x, assoc s.2 x = nextP p x) → loopR (g_plan_joined_l2 p s) 0 = some (s.2, true) := by
    intro s hs
    obtain ⟨b, hb, rfl⟩ := loop_ix (l := p.elems) (step := g_plan_joined_l2 p s) (Post := fun b => b = (s.2, true)) (fun _ _ => True) (fun _ => ⟨_, by simp only [g_plan_joined_l2, dge, cond_false], rfl⟩) (fun i e he _ => by
      have := ilt he
      refine .inr ⟨?_, trivial⟩
      simp only [g_plan_joined_l2, dlt he, cond_true, idx_nat, he, Option.bind_some, cbne, hs, wi64_succ (show i < 1000000000 by omega)]
      by_cases hk : e.kind = 4
      · obtain ⟨y, hy, hyk⟩ := hj.gate i e he hk
        obtain ⟨e', he', hke⟩ := hasP_idx (hj.next hy)
        have : (e'.kind == 4) = false := beq_eq_false_iff_ne.2 (by rw [← hke]; exact hyk)
        simp [hk, hy, he', this, seqR]
      · simp [hk, seqR])
    exact hb
  obtain ⟨b, hb, h1, h2⟩ := loop_st (l := p.joins) (step := g_plan_joined_l1 p) (Post := fun b => b.2 = true ∧ ∀ x, assoc b.1 x = nextP p x) (fun i c => ∀ x, assoc c x = nextL (p.joins.take i) x) (fun c hI => by
      rw [List.take_length] at hI
      exact ⟨(c, true), by simp only [g_plan_joined_l1, dge, cond_false, gates ((p.joins.length : Int), c) hI]; rfl, rfl, hI⟩) (fun i j c h hI => by
      have := ilt h
      obtain ⟨o1, o2, o3⟩ := hj.old h
      obtain ⟨p1, p2⟩ := ports_at h
      refine .inr ⟨_, ?_, next_step hj h hI⟩
      have e3 : (j.a == j.b) = false := beq_eq_false_iff_ne.2 o3
      simp only [g_plan_joined_l1, dlt h, cond_true, idx_nat, h, Option.bind_some, hI, nextL_none o1, nextL_none o2, e3, g_plan_port_eq, hj.has _ _ p1, hj.has _ _ p2, wi64_succ (show i < 1000000000 by omega)]
      rfl) (c := []) (fun x => by simp [assoc, nextL])
  obtain ⟨m, t⟩ := b
  simp only at h1 h2
  subst h1
  exact ⟨m, hb, h2⟩

end Go.E
/- Plain Lean: the program's check takes each valid plan. No condition. -/
namespace Go.E
open Go

theorem idx_at {α : Type} {l : List α} {n : Int} {a : α} (h : idx l n = some a) : l[n.toNat]? = some a ∧ n = (n.toNat : Int) := by
  obtain ⟨h1, h2, h3⟩ := idx_some h
  exact ⟨h3, by omega⟩

theorem mem_take {α : Type} {l : List α} {k : Nat} {x : α} (h : x ∈ l.take k) : ∃ j, j < k ∧ l[j]? = some x := by
  obtain ⟨j, hj⟩ := List.mem_iff_getElem?.1 h
  have := ilt hj
  rw [List.length_take] at this
  rw [List.getElem?_take, if_pos (by omega)] at hj
  exact ⟨j, by omega, hj⟩

theorem plan_signals_ok (p : Plan) (hv : Valid p) (m : List (Port × Port)) (hm : ∀ x, assoc m x = nextP p x) : g_plan_signals p m = some true := by
  have q1 := hv.few.elems; have q3 := hv.few.signals
  have hs := hv.sig
  unfold g_plan_signals
  have gates : ∀ s : Int × List (Port × Bool), (∀ x, (assoc s.2 x).getD false = decide (x ∈ p.signals.map (·.at_))) → loopR (g_plan_signals_l2 p s) 0 = some true := by
    intro s hS
    obtain ⟨b, hb, rfl⟩ := loop_ix (l := p.elems) (step := g_plan_signals_l2 p s) (Post := fun b => b = true) (fun _ _ => True) (fun _ => ⟨_, by simp only [g_plan_signals_l2, dge, cond_false], rfl⟩) (fun i e he _ => by
      have := ilt he
      refine .inr ⟨?_, trivial⟩
      simp only [g_plan_signals_l2, dlt he, cond_true, idx_nat, he, Option.bind_some, cbeq, hS, wi64_succ (show i < 1000000000 by omega)]
      by_cases hk : e.kind = 4
      · have h0 := hs.gate i e he hk
        have : (⟨(i : Int), 0⟩ : Port) ∈ p.signals.map (·.at_) := by
          rcases readsF_spec ⟨(i : Int), 0⟩ p.signals 0 with ⟨h1, _⟩ | ⟨k, t, h1, h2, _⟩
          · unfold readsP at h0; rw [h1] at h0; omega
          · exact List.mem_map.2 ⟨t, List.mem_of_getElem? h1, h2⟩
        simp only [if_pos hk, this, decide_true]; rfl
      · simp only [if_neg hk]; rfl)
    exact hb
  obtain ⟨b, hb, rfl⟩ := loop_st (l := p.signals) (step := g_plan_signals_l1 p m) (Post := fun b => b = true) (fun i c => ∀ x, (assoc c x).getD false = decide (x ∈ (p.signals.take i).map (·.at_))) (fun c hI => by
      rw [List.take_length] at hI
      exact ⟨true, by simp only [g_plan_signals_l1, dge, cond_false, gates ((p.signals.length : Int), c) hI]; rfl, rfl⟩) (fun i s c h hI => by
      have := ilt h
      obtain ⟨e, he, hke⟩ := hasP_idx (hs.has i s h)
      obtain ⟨y, hy, hyk⟩ := hs.next i s h
      obtain ⟨e', he', hke'⟩ := hasP_idx (hv.join.next hy)
      have hk : ((bif (e.kind != 1) then some (e.kind != 4) else some false : Option Bool)) = some false := by
        rcases hs.kind i s h with hk | hk <;> rw [hke] at hk <;> simp [hk]
      have hk' : (e'.kind == 4) = false := beq_eq_false_iff_ne.2 (by rw [← hke']; exact hyk)
      have hnew : ¬ s.at_ ∈ (p.signals.take i).map (·.at_) := by
        intro hx
        obtain ⟨t, ht, hte⟩ := List.mem_map.1 hx
        obtain ⟨j, hj, hjt⟩ := mem_take ht
        have h1 := hs.reads i s h
        have h2 := hs.reads j t hjt
        rw [hte, h1] at h2
        omega
      refine .inr ⟨aput s.at_ true c, ?_, fun x => ?_⟩
      · simp only [g_plan_signals_l1, dlt h, cond_true, idx_nat, h, Option.bind_some, g_plan_port_eq, hs.has i s h, hI, hnew, decide_false, he, hk, hm, hy, Option.isSome_some, Option.getD_some, he', hk', Bool.not_true, cond_false, wi64_succ (show i < 1000000000 by omega)]
      · rw [assoc_aput', List.take_add_one, h]
        simp only [Option.toList_some, List.map_append, List.map_cons, List.map_nil, List.mem_append, List.mem_singleton]
        by_cases hx : x = s.at_
        · simp [hx]
        · rw [if_neg hx, hI]; simp only [hx, or_false]) (c := []) (fun x => by simp [assoc])
  exact hb

theorem meets_optM {p : Plan} {m : List (Port × Port)} (hm : ∀ x, assoc m x = nextP p x) (x : Port) (f : Int) : ((bif (assoc m x).isSome then some (((assoc m x).getD ⟨0, 0⟩).elem == f) else some false : Option Bool)) = some (decide (meetsP p x f)) := by
  rw [hm]; exact meets_opt p x f

theorem chainP_at {p : Plan} : ∀ {r : List Int} {o e : Int} {f : Int}, chainP p o e (f :: r) → ∃ y, nextP p ⟨e, o⟩ = some y ∧ y.elem = f ∧ chainP p (1 - y.fin) f r := fun h => h

theorem plan_row_ok (p : Plan) (hv : Valid p) (m : List (Port × Port)) (hm : ∀ x, assoc m x = nextP p x) (l : List Int) (hl : LineOK p l) (hlen : l.length ≤ 60) : g_plan_row l m = some true := by
  unfold g_plan_row
  by_cases h2 : (l.length : Int) < 2
  · simp [h2]
  · have hd : decide ((l.length : Int) < 2) = false := by simpa using h2
    simp only [hd, cond_false]
    obtain ⟨a, b, r, rfl⟩ : ∃ a b r, l = a :: b :: r := by
      match l, h2 with
      | [], h => simp at h
      | [a], h => simp at h
      | a :: b :: r, _ => exact ⟨a, b, r, rfl⟩
    have i0 : idx (a :: b :: r) 0 = some a := rfl
    have i1 : idx (a :: b :: r) 1 = some b := rfl
    obtain ⟨hs, hc⟩ := hl.chain a b r rfl
    have st : ∀ (o e : Int), 0 ≤ e → g_plan_row_l1 (a :: b :: r) m (o, e) = some (.inl (if meetsP p ⟨a, e⟩ b then e else o, wi64 (e - 1))) := by
      intro o e he
      simp only [g_plan_row_l1, he, decide_true, cond_true, i0, i1, Option.bind_some, meets_optM hm]
      by_cases hm : meetsP p ⟨a, e⟩ b <;> simp [hm]
    have two : loopR (g_plan_row_l1 (a :: b :: r) m) ((-1), 1) = loopR (g_plan_row_l1 (a :: b :: r) m) (startF p a b, -1) := by
      rw [loopR_inl (st (-1) 1 (by omega)), show wi64 (1 - 1) = 0 by decide, loopR_inl (st _ 0 (by omega)), show wi64 (0 - 1) = -1 by decide]
      rfl
    rw [two, loopR_eq]
    have hsd : decide (startF p a b < 0) = false := by simp; omega
    simp only [g_plan_row_l1, show decide ((0 : Int) ≤ -1) = false by decide, cond_false, hsd]
    have key : loopR (g_plan_row_l2 (a :: b :: r) m) (startF p a b, 1) = some true := by
      obtain ⟨t, ht, rfl⟩ : ∃ t, loopR (g_plan_row_l2 (a :: b :: r) m) (startF p a b, 1) = some t ∧ t = true := by
        refine loop_up (fun k s => k + 1 ≤ (a :: b :: r).length ∧ s.2 = ((k + 1 : Nat) : Int) ∧ ∀ e, (a :: b :: r)[k]? = some e → chainP p s.1 e ((a :: b :: r).drop (k + 1))) (a :: b :: r).length ?_ ⟨by simp, rfl, fun e he => by cases he; exact hc⟩
        rintro k ⟨o, i⟩ ⟨hk, hi, hch⟩
        simp only at hi hch
        subst hi
        generalize hL : a :: b :: r = L at *
        by_cases he : k + 1 = L.length
        · have : decide (((k + 1 : Nat) : Int) < L.length) = false := by simp; omega
          exact .inl ⟨true, by simp only [g_plan_row_l2, this, cond_false], rfl⟩
        · have hlt : k + 1 < L.length := by omega
          have : decide (((k + 1 : Nat) : Int) < L.length) = true := by simp; omega
          have ha : L[k]? = some (L[k]'(by omega)) := List.getElem?_eq_getElem _
          have hb : L[k + 1]? = some (L[k + 1]'hlt) := List.getElem?_eq_getElem _
          have e1 : wi64 (((k + 1 : Nat) : Int) - 1) = (k : Int) := by rw [wi64_id] <;> omega
          have := hch _ ha
          rw [List.drop_eq_getElem_cons hlt] at this
          obtain ⟨y, hn, hy, hrest⟩ := chainP_at this
          obtain ⟨f1, f2, _⟩ := hasP_fin (hv.join.next hn)
          have e2 : (y.elem != L[k + 1]'hlt) = false := by simp [hy]
          have hd : decide (((k + 1 : Nat) : Int) < L.length) = true := by simp; omega
          refine .inr ⟨by omega, (1 - y.fin, ((k + 1 + 1 : Nat) : Int)), ?_, by omega, rfl, fun e he' => ?_⟩
          · simp only [g_plan_row_l2, hd, cond_true, e1, idx_nat, ha, hb, Option.bind_some, hm, hn, Option.isSome_some, Option.getD_some, Bool.not_true, cond_false, e2,
              wi64_succ (show k + 1 < 1000000000 by omega), wi64_id (n := 1 - y.fin) (by omega) (by omega)]
          · rw [hb] at he'; cases he'; exact hrest
      exact ht
    rw [key]; rfl

theorem plan_lines_ok (p : Plan) (hv : Valid p) (m : List (Port × Port)) (hm : ∀ x, assoc m x = nextP p x) : g_plan_lines p m = some true := by
  have q1 := hv.few.elems; have q4 := hv.few.lines
  have nod := hv.line.once
  unfold g_plan_lines
  obtain ⟨b, hb, rfl⟩ := loop_st (l := p.lines) (step := g_plan_lines_l1 p m) (Post := fun b => b = true) (fun i c => ∀ x, (assoc c x).getD false = decide (x ∈ (p.lines.take i).flatMap (·.elems))) (fun c hI => ⟨true, by simp only [g_plan_lines_l1, dge, cond_false], rfl⟩) (fun i a c ha hI => by
      have := ilt ha
      have hl := hv.line.line i a ha
      have hal := (hv.few.line i a ha).1
      have h0 : ((a.elems.length : Int) == 0) = false := by rw [beq_eq_false_iff_ne]; have := hl.one; omega
      simp only [g_plan_lines_l1, dlt ha, cond_true, idx_nat, ha, Option.bind_some, h0, cond_false]
      have split : p.lines.flatMap (·.elems) = (p.lines.take i).flatMap (·.elems) ++ (a.elems ++ (p.lines.drop (i + 1)).flatMap (·.elems)) := by
        rw [← List.append_assoc, ← take_flat_succ ha, ← List.flatMap_append, List.take_append_drop]
      rw [split] at nod
      obtain ⟨r, hr, c', rfl, hc'⟩ : ∃ r, loopR (g_plan_lines_l2 p m ((i : Int), c) a) (0, c) = some r ∧ ∃ c', r = .inl (((i + 1 : Nat) : Int), c') ∧ ∀ x, (assoc c' x).getD false = decide (x ∈ (p.lines.take (i + 1)).flatMap (·.elems)) := by
        refine loop_st (l := a.elems) (fun k d => ∀ x, (assoc d x).getD false = decide (x ∈ (p.lines.take i).flatMap (·.elems) ++ a.elems.take k)) (fun d hd => ?_) (fun k e d he hd => ?_) (c := c) (fun x => by simpa using hI x)
        · rw [List.take_length] at hd
          refine ⟨.inl (((i + 1 : Nat) : Int), d), ?_, d, rfl, fun x => by rw [hd, take_flat_succ ha]⟩
          simp only [g_plan_lines_l2, dge, cond_false, plan_row_ok p hv m hm a.elems hl hal, Option.bind_some, wi64_succ (show i < 1000000000 by omega)]; rfl
        · have hk := ilt he
          have ht := hl.track k e he
          obtain ⟨el, hel⟩ : ∃ el, idx p.elems e = some el := by
            cases h : idx p.elems e with
            | none => simp [kindP, h] at ht
            | some el => exact ⟨el, rfl⟩
          obtain ⟨g1, g2⟩ := idx_len hel
          have hke : el.kind = 1 := by simpa [kindP, hel] using ht
          have hnew : ¬ e ∈ (p.lines.take i).flatMap (·.elems) ++ a.elems.take k := by
            intro hx
            rcases List.mem_append.1 hx with hx | hx
            · exact (List.nodup_append.1 nod).2.2 e hx e (List.mem_append_left _ (List.mem_of_getElem? he)) rfl
            · obtain ⟨j, hj, hje⟩ := mem_take hx
              have nd := (List.nodup_append.1 (List.nodup_append.1 nod).2.1).1
              have := (List.getElem?_inj (ilt hje) nd).1 (hje.trans he.symm)
              omega
          refine .inr ⟨aput e true d, ?_, fun x => ?_⟩
          · simp only [g_plan_lines_l2, dlt he, cond_true, idx_nat, he, Option.bind_some, show ¬ e < 0 by omega, show ¬ (p.elems.length : Int) ≤ e by omega, decide_false, cond_false, hel, hke, hd, hnew, wi64_succ (show k < 1000000000 by omega)]
            rfl
          · rw [assoc_aput', List.take_add_one, he]
            simp only [Option.toList_some, ← List.append_assoc]
            by_cases hx : x = e
            · simp [hx]
            · rw [if_neg hx, hd]; simp only [List.mem_append, List.mem_singleton, hx, or_false]
      exact .inr ⟨c', hr, hc'⟩) (c := []) (fun x => by simp [assoc])
  exact hb

theorem plan_long_ok (p : Plan) (hv : Valid p) : g_plan_long p = some true := by
  have q1 := hv.few.elems; have q3 := hv.few.signals; have q4 := hv.args.top; have q5 := hv.args.margin
  obtain ⟨n, hn, n1, n2⟩ := stop_total p.top p.brake
  have hs := hv.long.stop n hn
  have hn' : g_plan_Stop p.top p.brake = some n := hn
  unfold g_plan_long
  simp only [hn', Option.bind_some]
  rw [wi64_id (n := p.top + n) (by omega) (by omega)]
  have hd : decide (p.margin < p.top + n) = false := by simp; omega
  simp only [hd, cond_false]
  have e2 : loopR (g_plan_long_l2 p) 0 = some true := by
    obtain ⟨b, hb, rfl⟩ := loop_ix (l := p.elems) (step := g_plan_long_l2 p) (Post := fun b => b = true) (fun _ _ => True) (fun _ => ⟨true, by simp only [g_plan_long_l2, dge, cond_false], rfl⟩) (fun i e he _ => by
      have := ilt he
      refine .inr ⟨?_, trivial⟩
      simp only [g_plan_long_l2, dlt he, cond_true, idx_nat, he, Option.bind_some, cbne, wi64_succ (show i < 1000000000 by omega)]
      by_cases hk : e.kind = 4
      · simp [hk]
      · have := hv.long.elem i e he hk
        simp only [if_neg hk, show ¬ e.length < p.top by omega, decide_false]; rfl)
    exact hb
  obtain ⟨b, hb, rfl⟩ := loop_ix (l := p.signals) (step := g_plan_long_l1 p) (Post := fun b => b = true) (fun _ _ => True) (fun _ => ⟨true, by simp only [g_plan_long_l1, dge, cond_false, e2]; rfl, rfl⟩) (fun i s h _ => by
    have := ilt h
    obtain ⟨e, he, hke⟩ := hasP_idx (hv.sig.has i s h)
    have hle : lengthP p s.at_.elem = e.length := by simp [lengthP, he]
    refine .inr ⟨?_, trivial⟩
    simp only [g_plan_long_l1, dlt h, cond_true, idx_nat, h, Option.bind_some, cbeq, he, wi64_succ (show i < 1000000000 by omega)]
    by_cases hk : e.kind = 1
    · have := hv.long.signal i s h (by rw [hke]; exact hk)
      rw [hle] at this
      simp only [if_pos hk, show ¬ e.length < p.margin by omega, decide_false]; rfl
    · simp only [if_neg hk]; rfl)
  exact hb

theorem plan_check_ok (p : Plan) (hv : Valid p) : g_plan_Check p = some 0 := by
  have h1 := hv.ne; have h2 := hv.ns; have h3 := hv.nl; have h4 := hv.nj
  obtain ⟨m, hm, hn⟩ := plan_joined_ok p hv.few hv.join
  unfold g_plan_Check
  simp only [show ¬ (40 : Int) < p.elems.length by omega, show ¬ (24 : Int) < p.signals.length by omega, show ¬ (4 : Int) < p.lines.length by omega, show ¬ (80 : Int) < p.joins.length by omega, decide_false, cond_false, Option.bind_some,
    numbers_ok p hv.few hv.args, Bool.not_true, twice1 p hv.few hv.n1, twice2 p hv.few hv.n2, twice3 p hv.few hv.n3, hm, plan_signals_ok p hv m hn, plan_lines_ok p hv m hn, plan_long_ok p hv]

end Go.E
/- Plain Lean: the net that the program makes of a valid plan. No condition. -/
namespace Go.E
open Go

/-- A net of a plan: what it says of ports and signals is what the plan says. -/
structure NetOf (p : Plan) (n : Net) : Prop where
  plan : n.p = p
  next : ∀ x, assoc n.next x = nextP p x
  reads : ∀ x, assoc n.reads x = if 0 ≤ readsP p x then some (readsP p x) else none

theorem clone_eq {α : Type} [DecidableEq α] (l : List α) (h : l.length ≤ 1000000) : nilS l (some []) ((appI ([] : List α) l).bind fun y => some y) = some l := by
  rw [appI_ok (by simp; omega)]
  cases l with
  | nil => simp [nilS, agree]
  | cons a l => rfl

theorem twin_eq (p : Plan) (hf : FewP p) : g_net_twin p = some p := by
  have q1 := hf.elems; have q2 := hf.joins; have q3 := hf.signals; have q4 := hf.lines
  have c1 : g_slices_Clone_apiElem p.elems = some p.elems := clone_eq _ (by omega)
  have c2 : g_slices_Clone_apiJoin p.joins = some p.joins := clone_eq _ (by omega)
  have c3 : g_slices_Clone_apiSignal p.signals = some p.signals := clone_eq _ (by omega)
  have c4 : g_slices_Clone_apiLine p.lines = some p.lines := clone_eq _ (by omega)
  unfold g_net_twin
  simp only [c1, c2, c3, c4, Option.bind_some]
  obtain ⟨b, hb, rfl⟩ := loop_st (l := p.lines) (step := g_net_twin_l1 p p.elems p.joins p.signals p.lines) (Post := fun b => b = p) (fun i c => c = p.lines) (fun c hc => by
      subst hc; exact ⟨p, by simp only [g_net_twin_l1, dge, cond_false], rfl⟩) (fun i a c ha hc => by
      subst hc
      have := ilt ha
      have hal := (hf.line i a ha).1
      have c5 : g_slices_Clone_int a.elems = some a.elems := clone_eq _ (by omega)
      refine .inr ⟨p.lines, ?_, rfl⟩
      simp only [g_net_twin_l1, dlt ha, cond_true, idx_nat, ha, Option.bind_some, c5, wi64_succ (show i < 1000000000 by omega)]
      have : setI p.lines (i : Int) (⟨a.name, a.elems⟩ : Line) = p.lines := by
        unfold setI
        apply List.ext_getElem?
        intro k
        rw [List.getElem?_set]
        split
        · rename_i h; simp only [Int.toNat_natCast] at h; subst h; split
          · exact ha.symm
          · rename_i h2; simp at h2; omega
        · rfl
      rw [this]) (c := p.lines) rfl
  exact hb

theorem readsF_app (x : Port) (s : Signal) : ∀ (l : List Signal) (i : Nat), readsF x i (l ++ [s]) = if 0 ≤ readsF x i l then readsF x i l else if s.at_ = x then ((i + l.length : Nat) : Int) else -1
  | [], i => by simp [readsF]
  | t :: l, i => by
    by_cases h : t.at_ = x
    · simp [readsF, h]
    · have e : ∀ r, readsF x i (t :: r) = readsF x (i + 1) r := fun r => by simp [readsF, h]
      simp only [List.cons_append, e, readsF_app x s l (i + 1), List.length_cons]
      rw [show i + 1 + l.length = i + (l.length + 1) by omega]

theorem new_lines (p y15 : Plan) (hf : FewP p) (s58 : Int × List (Port × Port)) (s140 : Int × List (Port × Int)) : ∃ a b, loopR (g_net_New_l3 p y15 s58 s140) (0, [], []) = some (some ⟨y15, s58.2, s140.2, a, b⟩, 0) := by
  have q4 := hf.lines
  obtain ⟨r, hr, a, b, rfl⟩ : ∃ r, loopR (g_net_New_l3 p y15 s58 s140) (0, [], []) = some r ∧ ∃ a b, r = (some ⟨y15, s58.2, s140.2, a, b⟩, 0) := by
    refine loop_st (l := p.lines) (fun _ _ => True) (fun c _ => ⟨_, by simp only [g_net_New_l3, dge, cond_false], c.1, c.2, rfl⟩) (fun i l c h _ => ?_) (c := (([], []) : List (Int × Arr2Int) × List (Int × Int))) trivial
    have := ilt h
    have hal := (hf.line i l h).1
    obtain ⟨t, ht⟩ : ∃ t : Int, ((bif decide (1 < (l.elems.length : Int)) then (idx l.elems 0).bind fun y1186 => ((bif (assoc s58.2 (⟨y1186, 0⟩ : Port)).isSome then (idx l.elems 1).bind fun y1195 => some ((((assoc s58.2 (⟨y1186, 0⟩ : Port)).getD (⟨0, 0⟩ : Port)).elem) == y1195) else some false : Option (Bool))).bind fun (t1192 : Bool) => bif t1192 then some 1 else some 0 else some 0 : Option (Int))) = some t := by
      match hl : l.elems with
      | [] => exact ⟨0, by simp⟩
      | [a] => exact ⟨0, by simp⟩
      | a :: b :: r =>
        have hd : decide (1 < ((a :: b :: r).length : Int)) = true := by simp; omega
        have i0 : idx (a :: b :: r) 0 = some a := rfl
        have i1 : idx (a :: b :: r) 1 = some b := rfl
        simp only [hd, cond_true, i0, i1, Option.bind_some]
        cases (assoc s58.2 (⟨a, 0⟩ : Port)).isSome with
        | false => exact ⟨0, rfl⟩
        | true =>
          simp only [cond_true, Option.bind_some]
          cases ((assoc s58.2 (⟨a, 0⟩ : Port)).getD (⟨0, 0⟩ : Port)).elem == b with
          | false => exact ⟨0, rfl⟩
          | true => exact ⟨1, rfl⟩
    refine .inr ?_
    simp only [g_net_New_l3, dlt h, cond_true, idx_nat, h, Option.bind_some, ht]
    obtain ⟨r, hr, c', rfl⟩ : ∃ r, loopR (g_net_New_l4 s58 ((i : Int), c) l) (t, 0, c.1, c.2) = some r ∧ ∃ c', r = .inl (((i + 1 : Nat) : Int), c') := by
      refine loop_up (fun k s => s.2.1 = (k : Int) ∧ k ≤ l.elems.length) l.elems.length ?_ ⟨rfl, Nat.zero_le _⟩
      rintro k ⟨x, j, d1, d2⟩ ⟨hj, hk⟩
      simp only at hj
      subst hj
      by_cases he : k = l.elems.length
      · subst he
        exact .inl ⟨.inl (((i + 1 : Nat) : Int), d1, d2), by simp only [g_net_New_l4, dge, cond_false, wi64_succ (show i < 1000000000 by omega)], (d1, d2), rfl⟩
      · have ha : l.elems[k]? = some (l.elems[k]'(by omega)) := List.getElem?_eq_getElem _
        exact .inr ⟨by omega, (((assoc s58.2 (⟨l.elems[k]'(by omega), wi64 (1 - x)⟩ : Port)).getD (⟨0, 0⟩ : Port)).fin, ((k + 1 : Nat) : Int), aput (l.elems[k]'(by omega)) (⟨(i : Int), (k : Int)⟩ : Arr2Int) d1, aput (l.elems[k]'(by omega)) x d2), by simp only [g_net_New_l4, dlt ha, cond_true, idx_nat, ha, Option.bind_some, wi64_succ (show k < 1000000000 by omega)], rfl, by omega⟩
    exact ⟨c', hr, trivial⟩
  exact ⟨a, b, hr⟩

theorem new_ok (p : Plan) (hv : Valid p) : ∃ n, g_net_New p = some (some n, 0) ∧ NetOf p n := by
  have q2 := hv.few.joins; have q3 := hv.few.signals
  unfold g_net_New
  simp only [plan_check_ok p hv, Option.bind_some, bne_self_eq_false, cond_false, twin_eq p hv.few]
  have l2 : ∀ s58 : Int × List (Port × Port), (∀ x, assoc s58.2 x = nextP p x) → ∃ r, loopR (g_net_New_l2 p p s58) (0, []) = some r ∧ ∃ n, r = (some n, 0) ∧ NetOf p n := by
    intro s58 hs
    refine loop_st (l := p.signals) (fun i c => ∀ x, assoc c x = if 0 ≤ readsF x 0 (p.signals.take i) then some (readsF x 0 (p.signals.take i)) else none) (fun c hI => ?_) (fun i s c h hI => ?_) (c := []) (fun x => by simp [assoc, readsF])
    · rw [List.take_length] at hI
      obtain ⟨a, b, hr⟩ := new_lines p p hv.few s58 ((p.signals.length : Int), c)
      exact ⟨_, by simp only [g_net_New_l2, dge, cond_false, hr]; rfl, _, rfl, ⟨rfl, hs, hI⟩⟩
    · have := ilt h
      refine .inr ⟨aput s.at_ (i : Int) c, by simp only [g_net_New_l2, dlt h, cond_true, idx_nat, h, Option.bind_some, wi64_succ (show i < 1000000000 by omega)], fun x => ?_⟩
      have hlen : (p.signals.take i).length = i := by rw [List.length_take]; omega
      rw [assoc_aput', List.take_add_one, h]
      simp only [Option.toList_some, readsF_app, hI, hlen]
      by_cases hx : x = s.at_
      · subst hx
        have hr := hv.sig.reads i s h
        have hnot : ¬ 0 ≤ readsF s.at_ 0 (p.signals.take i) := by
          intro h0
          rcases readsF_spec s.at_ (p.signals.take i) 0 with ⟨h1, _⟩ | ⟨k, t, h1, h2, _, _⟩
          · omega
          · obtain ⟨j, hj, hjt⟩ := mem_take (List.mem_of_getElem? h1)
            have := hv.sig.reads j t hjt
            rw [h2, hr] at this
            omega
        rw [if_pos rfl, if_neg hnot, if_pos rfl, if_pos (by omega)]
        simp
      · have hx' : ¬ s.at_ = x := fun e => hx e.symm
        by_cases h0 : 0 ≤ readsF x 0 (p.signals.take i)
        · simp only [if_neg hx, if_pos h0]
        · simp only [if_neg hx, if_neg h0, if_neg hx']; rfl
  obtain ⟨r, hr, n, rfl, hn⟩ : ∃ r, loopR (g_net_New_l1 p p) (0, []) = some r ∧ ∃ n, r = (some n, 0) ∧ NetOf p n := by
    refine loop_st (l := p.joins) (fun i c => ∀ x, assoc c x = nextL (p.joins.take i) x) (fun c hI => ?_) (fun i j c h hI => ?_) (c := []) (fun x => by simp [assoc, nextL])
    · rw [List.take_length] at hI
      obtain ⟨r, hr, h⟩ := l2 ((p.joins.length : Int), c) hI
      exact ⟨r, by simp only [g_net_New_l1, dge, cond_false, hr]; rfl, h⟩
    · have := ilt h
      exact .inr ⟨_, by simp only [g_net_New_l1, dlt h, cond_true, idx_nat, h, Option.bind_some, wi64_succ (show i < 1000000000 by omega)], next_step hv.join h hI⟩
  exact ⟨n, hr, hn⟩

theorem made_total (p : Plan) : ∃ o, g_L4_Made p = some o ∧ (g_R6_Fine p = some true → ∃ n, o = some n ∧ NetOf p n) := by
  obtain ⟨b, hb, hv⟩ := fine_total p
  unfold g_L4_Made
  simp only [hb, Option.bind_some]
  cases b with
  | false => exact ⟨none, rfl, fun h => by simp at h⟩
  | true =>
    obtain ⟨n, hn, ho⟩ := new_ok p (hv rfl)
    simp only [hn, Option.bind_some, Bool.not_true, cond_false]
    exact ⟨some n, rfl, fun _ => ⟨n, rfl, ho⟩⟩

end Go.E
/- Plain Lean: what a net says is what the plan says. No condition. -/
namespace Go.E
open Go

theorem g_R6_Kind_eq (p : Plan) (e : Int) : g_R6_Kind p e = some (kindP p e) := by
  unfold g_R6_Kind; rw [g_R6_kind_eq]; rfl

section
variable {p : Plan} {n : Net}
theorem net_elem (h : NetOf p n) (e : Int) : g_net_Net_elem n e = some ((idx p.elems e).getD ⟨ByteArray.empty, 0, 0⟩) := by
  unfold g_net_Net_elem
  rw [h.plan]
  by_cases h1 : e < 0
  · simp [h1, idx_none (.inl h1)]
  · by_cases h2 : (p.elems.length : Int) ≤ e
    · simp [h1, h2, idx_none (.inr h2)]
    · obtain ⟨a, ha⟩ := idx_of (l := p.elems) (n := e) (by omega) (by omega)
      simp [h1, h2, ha]

theorem net_Kind (h : NetOf p n) (e : Int) : g_net_Net_Kind n e = some (kindP p e) := by
  unfold g_net_Net_Kind kindP
  rw [net_elem h]
  cases idx p.elems e <;> rfl

theorem net_Next (h : NetOf p n) (x : Port) : g_net_Net_Next n x = some ((nextP p x).getD ⟨0, 0⟩, (nextP p x).isSome) := by
  unfold g_net_Net_Next; rw [h.next]

theorem readsP_cases (p : Plan) (x : Port) : readsP p x = -1 ∨ (0 ≤ readsP p x ∧ readsP p x < p.signals.length) := by
  rcases readsF_spec x p.signals 0 with ⟨h, _⟩ | ⟨k, s, h1, _, h3, _⟩
  · exact .inl h
  · have := ilt h1
    right
    unfold readsP
    rw [h3]; omega

theorem net_Reads (h : NetOf p n) (x : Port) : g_net_Net_Reads n x = some (readsP p x) := by
  unfold g_net_Net_Reads
  rw [h.reads]
  rcases readsP_cases p x with h1 | ⟨h1, _⟩
  · rw [if_neg (by omega), h1]; rfl
  · rw [if_pos h1]; rfl

/-- The ways through an element. -/
def outsP (p : Plan) (e i : Int) : List Way :=
  if hasP p ⟨e, i⟩ then if kindP p e = 1 then [⟨1 - i, 0⟩] else if kindP p e = 3 then [⟨if i = 0 then 1 else if i = 1 then 0 else if i = 2 then 3 else 2, 0⟩] else if kindP p e = 2 then if i = 0 then [⟨1, 1⟩, ⟨2, 2⟩] else [⟨0, i⟩] else [] else []

theorem R6_Outs_eq (p : Plan) (e i : Int) : g_R6_Outs p e i = some (outsP p e i) := by
  unfold g_R6_Outs outsP
  simp only [g_R6_has_eq, Option.bind_some, g_R6_kind_eq, cbeq]
  cases hh : hasP p ⟨e, i⟩ with
  | false => rfl
  | true =>
    obtain ⟨h1, h2, h3⟩ := hasP_fin hh
    simp only at h1 h2 h3
    simp only [Bool.not_true, cond_false, if_true]
    by_cases k1 : kindP p e = 1
    · simp only [if_pos k1, wi64_id (n := 1 - i) (by omega) (by omega)]
    · by_cases k3 : kindP p e = 3
      · simp only [if_neg k1, if_pos k3]
        have : i = 0 ∨ i = 1 ∨ i = 2 ∨ i = 3 := by omega
        rcases this with rfl | rfl | rfl | rfl <;> rfl
      · by_cases k2 : kindP p e = 2
        · simp only [if_neg k1, if_neg k3, if_pos k2]
          by_cases i0 : i = 0 <;> simp [i0]
        · simp only [if_neg k1, if_neg k3, if_neg k2]

theorem net_Outs (h : NetOf p n) (e i : Int) : g_net_Net_Outs n e i = some (outsP p e i) := by
  unfold g_net_Net_Outs outsP
  simp only [net_Kind h, Option.bind_some, g_plan_Ends_eq, cbeq]
  by_cases h0 : i < 0
  · have : hasP p ⟨e, i⟩ = false := by simp [hasP]; omega
    simp [h0, this]
  · by_cases h1 : endsF (kindP p e) ≤ i
    · have : hasP p ⟨e, i⟩ = false := by simp [hasP]; omega
      simp [h0, h1, this]
    · have hh : hasP p ⟨e, i⟩ = true := by simp [hasP]; omega
      obtain ⟨_, h2, h3⟩ := hasP_fin hh
      simp only at h2 h3
      simp only [h0, h1, decide_false, cond_false, Option.bind_some, hh, if_true]
      by_cases k1 : kindP p e = 1
      · simp only [if_pos k1, wi64_id (n := 1 - i) (by omega) (by omega)]
      · by_cases k3 : kindP p e = 3
        · simp only [if_neg k1, if_pos k3]
          have : i = 0 ∨ i = 1 ∨ i = 2 ∨ i = 3 := by omega
          rcases this with rfl | rfl | rfl | rfl <;> rfl
        · by_cases k2 : kindP p e = 2
          · simp only [if_neg k1, if_neg k3, if_pos k2]
            rw [k2] at h3
            have : i = 0 ∨ i = 1 ∨ i = 2 := by simp [endsF] at h3; omega
            rcases this with rfl | rfl | rfl <;> rfl
          · simp only [if_neg k1, if_neg k3, if_neg k2]

theorem outsP_len (p : Plan) (e i : Int) : (outsP p e i).length ≤ 2 := by
  unfold outsP
  repeat' split
  all_goals simp

end
end Go.E
/- Plain Lean: sorted rows without repetition. No condition. -/
namespace Go.E
open Go

end Go.E
/- The known answers of layer 23, reckoned by the kernel. No condition. -/
namespace Go.E
open Go Go.Proofs
set_option maxRecDepth 100000
theorem known7 : g_L7_known = some true := by kernel_rfl

end Go.E
/- Plain Lean: RoadFinds answers true, for every argument. No condition. -/
namespace Go.E
open Go

/-! ### rows that are one -/
theorem eq_loop {α : Type} [DecidableEq α] {a b : List α} (hl : a.length = b.length) (hb : a.length < 1000000) {step : Int → Option (Int ⊕ Bool)}
    (h : ∀ i : Nat, i ≤ a.length → step (i : Int) = if h : i < a.length then (if a[i] = b[i]'(by omega) then some (.inl ((i + 1 : Nat) : Int)) else some (.inr false)) else some (.inr true)) : loopR step 0 = some (decide (a = b)) := by
  by_cases hab : a = b
  · subst hab
    obtain ⟨r, h1, h2⟩ := loop_ix (l := a) (step := step) (Post := fun r => r = true) (fun _ _ => True) (fun _ => ⟨true, by rw [h _ (Nat.le_refl _)]; simp, rfl⟩)
      (fun i x hx _ => .inr ⟨by have := ilt hx; rw [h _ (by omega), dif_pos this, if_pos rfl], trivial⟩)
    rw [h1, h2]; simp
  · obtain ⟨r, h1, h2⟩ := loop_ix (l := a) (step := step) (Post := fun r => r = false) (fun i x => b[i]? = some x) (fun good => by
        exfalso; refine hab (List.ext_getElem hl fun i h1 h2 => ?_)
        have := good i _ (List.getElem?_eq_getElem h1)
        rw [List.getElem?_eq_getElem h2] at this
        exact (Option.some.inj this).symm)
      (fun i x hx _ => by
        have hi := ilt hx
        have hx' : a[i] = x := Option.some.inj ((List.getElem?_eq_getElem hi).symm.trans hx)
        rw [h _ (by omega), dif_pos hi]
        by_cases e : a[i] = b[i]'(by omega)
        · exact .inr ⟨by rw [if_pos e], by rw [List.getElem?_eq_getElem (by omega), ← e, hx']⟩
        · exact .inl ⟨false, by rw [if_neg e], rfl⟩)
    rw [h1, h2]; simp [hab]

theorem eq_step {α : Type} [DecidableEq α] {a b : List α} (hl : a.length = b.length) (hb : a.length < 1000000) (i : Nat) (hi : i ≤ a.length) :
    (bif decide ((i : Int) < (a.length : Int)) then (idx a i).bind fun y => (idx b i).bind fun z => bif (!(y == z)) then some (.inr false) else some (.inl (wi64 ((i : Int) + 1))) else some (.inr true) : Option (Int ⊕ Bool)) =
      if h : i < a.length then (if a[i] = b[i]'(by omega) then some (.inl ((i + 1 : Nat) : Int)) else some (.inr false)) else some (.inr true) := by
  by_cases h : i < a.length
  · have d : decide ((i : Int) < (a.length : Int)) = true := by simpa using h
    have h2 : b[i]? = some (b[i]'(by omega)) := List.getElem?_eq_getElem _
    simp only [d, cond_true, idx_nat, List.getElem?_eq_getElem h, h2, Option.bind_some, dif_pos h, wi64_succ (show i < 1000000000 by omega)]
    by_cases e : a[i] = b[i]'(by omega)
    · simp [e]
    · have : (a[i] == b[i]'(by omega)) = false := beq_eq_false_iff_ne.2 e
      simp only [this, Bool.not_false, cond_true, if_neg e]
  · have d : decide ((i : Int) < (a.length : Int)) = false := by simp; omega
    simp only [d, cond_false, dif_neg h]

theorem len_ne {α : Type} [DecidableEq α] {a b : List α} (h : a.length ≠ b.length) : decide (a = b) = false := by
  simp only [decide_eq_false_iff_not]; intro e; exact h (by rw [e])

theorem eqNeeds (a b : List Need) (hb : a.length < 1000000) : g_slices_Equal_apiNeed a b = some (decide (a = b)) := by
  unfold g_slices_Equal_apiNeed
  rw [cbne]
  split
  · exact eq_loop (by omega) hb fun i hi => by unfold g_slices_Equal_apiNeed_l1; exact eq_step (by omega) hb i hi
  · rw [len_ne (by omega)]

theorem eqNeeds2 (a b : List Need) (hb : a.length < 1000000) : g_R12_SameNeeds a b = some (decide (a = b)) := by
  unfold g_R12_SameNeeds
  rw [cbne]
  split
  · exact eq_loop (by omega) hb fun i hi => by unfold g_R12_SameNeeds_l1; exact eq_step (by omega) hb i hi
  · rw [len_ne (by omega)]

/-! ### find, elements, onto -/
end Go.E
/- Plain Lean: the roads of a signal: the document's search and the program's are one. No condition. -/
namespace Go.E
open Go

def mkR (s to fin : Int) (st : List Step) (nd : List Need) : Road := ⟨s, to, fin, st, nd, [], [], [], false⟩

def addN (nd : List Need) (e pos : Int) : List Need := if pos = 0 then nd else nd ++ [⟨e, pos⟩]

/-- The roads that go on from the steps st into x. -/
def onF (p : Plan) (s : Int) : Nat → List Step → List Need → Port → List Int → List Road
  | 0, _, _, _, _ => []
  | k + 1, st, nd, x, met => if x.elem ∈ met ∨ st.length = 12 then [] else if kindP p x.elem = 4 then [mkR s (-1) 2 (st ++ [⟨x.elem, x.fin, -1⟩]) nd] else
    (outsP p x.elem x.fin).flatMap fun w => if 0 ≤ readsP p ⟨x.elem, w.out⟩ then [mkR s (readsP p ⟨x.elem, w.out⟩) 1 (st ++ [⟨x.elem, x.fin, w.out⟩]) (addN nd x.elem w.pos)] else match nextP p ⟨x.elem, w.out⟩ with
      | none => [mkR s (-1) 3 (st ++ [⟨x.elem, x.fin, w.out⟩]) (addN nd x.elem w.pos)]
      | some y => onF p s k (st ++ [⟨x.elem, x.fin, w.out⟩]) (addN nd x.elem w.pos) y (met ++ [x.elem])

/-- What one way gives. -/
def wayR (p : Plan) (s : Int) (k : Nat) (st : List Step) (nd : List Need) (x : Port) (met : List Int) (w : Way) : List Road :=
  if 0 ≤ readsP p ⟨x.elem, w.out⟩ then [mkR s (readsP p ⟨x.elem, w.out⟩) 1 (st ++ [⟨x.elem, x.fin, w.out⟩]) (addN nd x.elem w.pos)] else match nextP p ⟨x.elem, w.out⟩ with
    | none => [mkR s (-1) 3 (st ++ [⟨x.elem, x.fin, w.out⟩]) (addN nd x.elem w.pos)]
    | some y => onF p s k (st ++ [⟨x.elem, x.fin, w.out⟩]) (addN nd x.elem w.pos) y (met ++ [x.elem])

theorem onF_succ (p : Plan) (s : Int) (k : Nat) (st : List Step) (nd : List Need) (x : Port) (met : List Int) :
    onF p s (k + 1) st nd x met = if x.elem ∈ met ∨ st.length = 12 then [] else if kindP p x.elem = 4 then [mkR s (-1) 2 (st ++ [⟨x.elem, x.fin, -1⟩]) nd] else (outsP p x.elem x.fin).flatMap (wayR p s k st nd x met) := rfl

theorem wayR_len (p : Plan) (s : Int) (k : Nat) (st : List Step) (nd : List Need) (x : Port) (met : List Int) (w : Way) (ih : ∀ st nd x met, (onF p s k st nd x met).length ≤ 2 ^ k) : (wayR p s k st nd x met w).length ≤ 2 ^ k := by
  have h1 : 1 ≤ 2 ^ k := Nat.one_le_two_pow
  unfold wayR
  split
  · simp; omega
  · split
    · simp; omega
    · exact ih _ _ _ _

theorem flat_lenB {α β : Type} (f : α → List β) (b : Nat) : ∀ l : List α, (∀ a ∈ l, (f a).length ≤ b) → (l.flatMap f).length ≤ l.length * b
  | [], _ => by simp
  | a :: l, h => by
    have h1 := h a (by simp)
    have h2 := flat_lenB f b l fun x hx => h x (by simp [hx])
    simp only [List.flatMap_cons, List.length_append, List.length_cons, Nat.add_mul]
    omega

theorem onF_len (p : Plan) (s : Int) : ∀ (k : Nat) (st : List Step) (nd : List Need) (x : Port) (met : List Int), (onF p s k st nd x met).length ≤ 2 ^ k
  | 0, _, _, _, _ => by simp [onF]
  | k + 1, st, nd, x, met => by
    have h1 : 1 ≤ 2 ^ (k + 1) := Nat.one_le_two_pow
    rw [onF_succ]
    split
    · simp
    · split
      · simp; omega
      · have h2 := flat_lenB (wayR p s k st nd x met) (2 ^ k) (outsP p x.elem x.fin) fun w _ => wayR_len p s k st nd x met w (onF_len p s k)
        have h3 := outsP_len p x.elem x.fin
        have h4 : (outsP p x.elem x.fin).length * 2 ^ k ≤ 2 * 2 ^ k := Nat.mul_le_mul_right _ h3
        rw [Nat.pow_succ]; omega

/-! ### the document's search -/
theorem In_eq (l : List Int) (hl : l.length < 1000000) (x : Int) : g_R6_In l x = some (decide (x ∈ l)) := by
  unfold g_R6_In
  obtain ⟨b, h1, h2⟩ := loop_ix (l := l) (step := g_R6_In_l1 l x) (Post := fun b => b = decide (x ∈ l)) (fun _ y => y ≠ x) (fun good => ⟨false, by simp [g_R6_In_l1], by
      symm; rw [decide_eq_false_iff_not]; intro hm
      obtain ⟨i, hi⟩ := List.getElem?_of_mem hm
      exact good i x hi rfl⟩) (fun i a ha _ => by
      have := ilt ha
      by_cases e : a = x
      · exact .inl ⟨true, by simp only [g_R6_In_l1, dlt ha, cond_true, idx_nat, ha, Option.bind_some, e, beq_self_eq_true], by symm; rw [decide_eq_true_iff]; subst e; exact List.mem_of_getElem? ha⟩
      · have : (a == x) = false := beq_eq_false_iff_ne.2 e
        exact .inr ⟨by simp only [g_R6_In_l1, dlt ha, cond_true, idx_nat, ha, Option.bind_some, this, cond_false, wi64_succ (show i < 1000000000 by omega)], e⟩)
  rw [h1, h2]

theorem with_eq (r : Road) (s : Step) (pos fin to : Int) (h1 : r.steps.length ≤ 100) (h2 : r.needs.length ≤ 100) : g_R12_with r s pos fin to = some (mkR r.frm to fin (r.steps ++ [s]) (addN r.needs s.elem pos)) := by
  unfold g_R12_with
  rw [appI_ok (by simp; omega)]
  simp only [Option.bind_some, List.nil_append]
  rw [appI_ok (by simp; omega)]
  simp only [Option.bind_some]
  rw [appI_ok (by simp; omega)]
  simp only [Option.bind_some, List.nil_append, cbne]
  unfold addN mkR
  by_cases e : pos = 0
  · simp [e]
  · simp only [if_neg e]
    rw [appI_ok (by simp; omega)]
    simp

theorem addN_len (nd : List Need) (e pos : Int) : (addN nd e pos).length ≤ nd.length + 1 := by
  unfold addN; split <;> simp

/-- The document's search, with fuel. -/
noncomputable def onG (m : Nat) : Plan × Road × Port × List Int → Option (List Road) := recF (fun rc a => g_R12_on_b rc a.1 a.2.1 a.2.2.1 a.2.2.2) m

theorem on_eq {p : Plan} (hf : FewP p) (s : Int) : ∀ (k m : Nat) (to fin : Int) (st : List Step) (nd : List Need) (x : Port) (met : List Int), k ≤ m → st.length + k = 13 → nd.length ≤ st.length → met.length ≤ st.length + 1 → 1 ≤ k →
    onG m (p, (⟨s, to, fin, st, nd, [], [], [], false⟩ : Road), x, met) = some (onF p s k st nd x met)
  | 0, _, _, _, _, _, _, _, _, _, _, _, h => by omega
  | k + 1, 0, _, _, _, _, _, _, h, _, _, _, _ => by omega
  | k + 1, m + 1, to, fin, st, nd, x, met, hkm, hst, hnd, hmet, _ => by
    have hpow : 2 ^ k ≤ 2 ^ 12 := Nat.pow_le_pow_right (by decide) (by omega)
    show g_R12_on_b (onG m) p ⟨s, to, fin, st, nd, [], [], [], false⟩ x met = _
    unfold g_R12_on_b
    rw [In_eq met (by omega) x.elem, onF_succ]
    simp only [Option.bind_some]
    by_cases hm : x.elem ∈ met
    · simp [hm]
    · simp only [hm, decide_false, cond_false, false_or, Option.bind_some]
      by_cases hl : st.length = 12
      · have : (((st.length : Nat) : Int) == 12) = true := by rw [beq_iff_eq]; omega
        simp only [this, cond_true, if_pos hl]
      · have : (((st.length : Nat) : Int) == 12) = false := by rw [beq_eq_false_iff_ne]; omega
        simp only [this, cond_false, if_neg hl]
        rw [appI_ok (by simp; omega)]
        simp only [Option.bind_some, List.nil_append]
        rw [appI_ok (by simp; omega)]
        simp only [Option.bind_some, g_R6_Kind_eq, cbeq]
        by_cases hk : kindP p x.elem = 4
        · simp only [if_pos hk, with_eq (⟨s, to, fin, st, nd, [], [], [], false⟩ : Road) ⟨x.elem, x.fin, -1⟩ 0 2 (-1) (by simp only; omega) (by simp only; omega), Option.bind_some, addN, if_true]
        · simp only [if_neg hk, R6_Outs_eq, Option.bind_some]
          have hol := outsP_len p x.elem x.fin
          have wl : ∀ w, (wayR p s k st nd x met w).length ≤ 2 ^ k := fun w => wayR_len p s k st nd x met w (onF_len p s k)
          obtain ⟨b, h1, h2⟩ := loop_st (l := outsP p x.elem x.fin) (step := g_R12_on_b_l1 p ⟨s, to, fin, st, nd, [], [], [], false⟩ x (onG m) (met ++ [x.elem]) (outsP p x.elem x.fin))
            (Post := fun b => b = (outsP p x.elem x.fin).flatMap (wayR p s k st nd x met)) (fun i o => o = ((outsP p x.elem x.fin).take i).flatMap (wayR p s k st nd x met)) (c := [])
            (fun o ho => ⟨o, by simp [g_R12_on_b_l1], by rw [ho, List.take_length]⟩)
            (fun i w o hw ho => by
              have hi := ilt hw
              have hol2 : o.length ≤ 2 * 2 ^ k := by
                rw [ho]
                have h5 := flat_lenB (wayR p s k st nd x met) (2 ^ k) ((outsP p x.elem x.fin).take i) fun w _ => wl w
                have h6 : ((outsP p x.elem x.fin).take i).length * 2 ^ k ≤ 2 * 2 ^ k := Nat.mul_le_mul_right _ (by rw [List.length_take]; omega)
                omega
              have hw2 := wl w
              refine .inr ⟨o ++ wayR p s k st nd x met w, ?_, by rw [ho, List.take_add_one, hw]; simp⟩
              have hb : o.length + (wayR p s k st nd x met w).length ≤ 4294967296 := by omega
              simp only [g_R12_on_b_l1, dlt hw, cond_true, idx_nat, hw, Option.bind_some, g_R6_Reads_eq p (show p.signals.length < 1000000 by have := hf.signals; omega)]
              unfold wayR at hb ⊢
              by_cases hr : 0 ≤ readsP p ⟨x.elem, w.out⟩
              · rw [if_pos hr] at hb ⊢
                simp only [hr, decide_true, cond_true, with_eq (⟨s, to, fin, st, nd, [], [], [], false⟩ : Road) ⟨x.elem, x.fin, w.out⟩ w.pos 1 (readsP p ⟨x.elem, w.out⟩) (by simp only; omega) (by simp only; omega), Option.bind_some]
                rw [appI_ok hb]
                simp only [Option.bind_some, wi64_succ (show i < 1000000000 by omega)]
              · rw [if_neg hr] at hb ⊢
                simp only [hr, decide_false, cond_false, g_R6_Next_eq p (by have := hf.joins; omega), Option.bind_some]
                cases hnx : nextP p ⟨x.elem, w.out⟩ with
                | none =>
                  rw [hnx] at hb
                  simp only [Option.isSome_none, Bool.not_false, cond_true, with_eq (⟨s, to, fin, st, nd, [], [], [], false⟩ : Road) ⟨x.elem, x.fin, w.out⟩ w.pos 3 (-1) (by simp only; omega) (by simp only; omega), Option.bind_some]
                  rw [appI_ok hb]
                  simp only [Option.bind_some, wi64_succ (show i < 1000000000 by omega)]
                | some y =>
                  rw [hnx] at hb
                  simp only at hb
                  have hal := addN_len nd x.elem w.pos
                  have hrec := on_eq hf s k m (-1) 0 (st ++ [⟨x.elem, x.fin, w.out⟩]) (addN nd x.elem w.pos) y (met ++ [x.elem]) (by omega) (by simp; omega) (by simp; omega) (by simp; omega) (by omega)
                  simp only [Option.isSome_some, Option.getD_some, Bool.not_true, cond_false, with_eq (⟨s, to, fin, st, nd, [], [], [], false⟩ : Road) ⟨x.elem, x.fin, w.out⟩ w.pos 0 (-1) (by simp only; omega) (by simp only; omega), Option.bind_some]
                  unfold mkR
                  rw [hrec]
                  simp only [Option.bind_some]
                  rw [appI_ok hb]
                  simp only [Option.bind_some, wi64_succ (show i < 1000000000 by omega)])
            (by simp)
          rw [show (0 : Int) = ((0 : Nat) : Int) from rfl] at *
          rw [h1, h2]

/-- The roads of a signal. -/
def ofF (p : Plan) (s : Int) : List Road := match idx p.signals s with
  | none => []
  | some a => match nextP p a.at_ with
    | none => []
    | some y => onF p s 13 [] [] y [a.at_.elem]

theorem At_eq (p : Plan) (s : Int) : g_R6_At p s = some (match idx p.signals s with | none => (⟨0, 0⟩, false) | some a => (a.at_, true)) := by
  unfold g_R6_At
  by_cases h1 : s < 0
  · simp [h1, idx_none (.inl h1)]
  · by_cases h2 : (p.signals.length : Int) ≤ s
    · simp [h1, h2, idx_none (.inr h2)]
    · obtain ⟨a, ha⟩ := idx_of (l := p.signals) (n := s) (by omega) (by omega)
      simp [h1, h2, ha]

theorem Of_eq {p : Plan} (hf : FewP p) (s : Int) : g_R12_Of p s = some (ofF p s) := by
  unfold g_R12_Of ofF
  rw [At_eq]
  cases idx p.signals s with
  | none => rfl
  | some a =>
    simp only [Option.bind_some, Bool.not_true, cond_false, g_R6_Next_eq p (by have := hf.joins; omega)]
    cases nextP p a.at_ with
    | none => rfl
    | some y =>
      have := on_eq hf s 13 1000 0 0 [] [] y [a.at_.elem] (by omega) rfl (by simp) (by simp) (by omega)
      simp only [Option.isSome_some, Option.getD_some, Bool.not_true, cond_false]
      show (onG 1000 _).bind _ = _
      rw [this]; rfl

end Go.E
/- Plain Lean: the program's search for roads gives what the document's does. No condition. -/
namespace Go.E
open Go

section
variable {p : Plan} {n : Net}

theorem net_At_eq (hn : NetOf p n) (s : Int) : g_net_Net_At n s = some (match idx p.signals s with | none => (⟨0, 0⟩, false) | some a => (a.at_, true)) := by
  have := At_eq p s
  unfold g_R6_At at this
  unfold g_net_Net_At
  rw [hn.plan]; exact this

/-! ### the program's search: what comes of a state -/
theorem slO_nil {α : Type} {l : List α} (h : l ≠ []) (a b : Int) : slO l a b = slI l a b := by
  cases l with
  | nil => exact absurd rfl h
  | cons x l => rfl

theorem outs_gate {e i : Int} (h : kindP p e = 4) : outsP p e i = [] := by
  unfold outsP
  rw [h]; simp

end
end Go.E
/- Plain Lean: whether something is a road: the program's answer and the document's are one. No condition. -/
namespace Go.E
open Go

theorem index_loop {α : Type} {l : List α} {f : α → Bool} (hl : l.length < 1000000) {step : Int → Option (Int ⊕ Int)}
    (h0 : step (l.length : Int) = some (.inr (-1))) (h : ∀ (i : Nat) a, l[i]? = some a → step (i : Int) = if f a = true then some (.inr (i : Int)) else some (.inl ((i + 1 : Nat) : Int))) :
    ∃ t, loopR step 0 = some t ∧ ((t = -1 ∧ l.find? f = none) ∨ ∃ a, 0 ≤ t ∧ l.find? f = some a ∧ idx l t = some a) := by
  have key : ∀ (r : List α) (i : Nat), l.drop i = r → i ≤ l.length → ∃ t, loopR step (i : Int) = some t ∧ ((t = -1 ∧ r.find? f = none) ∨ ∃ a, 0 ≤ t ∧ r.find? f = some a ∧ idx l t = some a) := by
    intro r
    induction r with
    | nil =>
      intro i hd hi
      have : i = l.length := by have := congrArg List.length hd; simp at this; omega
      subst this
      exact ⟨-1, loopR_inr h0, .inl ⟨rfl, rfl⟩⟩
    | cons a r ih =>
      intro i hd hi
      have hlt : i < l.length := by have := congrArg List.length hd; simp at this; omega
      have ha : l[i]? = some a := by
        have : (l.drop i)[0]? = some a := by rw [hd]; rfl
        simpa using this
      have hr : l.drop (i + 1) = r := by
        have : (l.drop i).drop 1 = r := by rw [hd]; rfl
        rwa [List.drop_drop] at this
      by_cases c : f a = true
      · exact ⟨i, loopR_inr (by rw [h i a ha, if_pos c]), .inr ⟨a, by omega, by simp [c], by rw [idx_nat, ha]⟩⟩
      · obtain ⟨t, h1, h2⟩ := ih (i + 1) hr (by omega)
        refine ⟨t, by rw [loopR_inl (by rw [h i a ha, if_neg c]), h1], ?_⟩
        simpa [List.find?_cons, c] using h2
  exact key l 0 rfl (Nat.zero_le _)

def wayF (l : List Way) (o : Int) : Option Way := l.find? fun w => w.out == o

/-- The needs of steps that follow from a port on, if they may follow. -/
def stepsF (p : Plan) (a : Int) : Option Port → List Step → List Need → List Step → Option (List Need)
  | _, _, nd, [] => some nd
  | none, _, _, _ :: _ => none
  | some x, pv, nd, s :: r => if s.elem ≠ x.elem ∨ s.in_ ≠ x.fin ∨ s.elem = a ∨ s.elem ∈ pv.map (·.elem) then none else if kindP p s.elem = 4 then (if r = [] ∧ s.out = -1 then some nd else none) else match wayF (outsP p s.elem s.in_) s.out with
    | none => none
    | some w => if r ≠ [] ∧ 0 ≤ readsP p ⟨s.elem, s.out⟩ then none else stepsF p a (nextP p ⟨s.elem, s.out⟩) (pv ++ [s]) (addN nd s.elem w.pos) r

def tailF (p : Plan) (fin to : Int) (l : Step) : Bool :=
  if kindP p l.elem = 4 then decide (fin = 2 ∧ to = -1) else if 0 ≤ readsP p ⟨l.elem, l.out⟩ then decide (fin = 1 ∧ to = readsP p ⟨l.elem, l.out⟩) else (nextP p ⟨l.elem, l.out⟩).isNone && decide (fin = 3 ∧ to = -1)

/-- Is it a road (but for its flank)? -/
def isF (p : Plan) (r : Road) : Bool := match idx p.signals r.frm with
  | none => false
  | some sg => if r.steps.length < 1 ∨ 12 < r.steps.length then false else match stepsF p sg.at_.elem (nextP p sg.at_) [] [] r.steps with
    | none => false
    | some nd => match r.steps.getLast? with
      | none => false
      | some l => tailF p r.fin r.to l && decide (r.needs = nd)

theorem stepsF_len {p : Plan} {a : Int} : ∀ {r : List Step} {x : Option Port} {pv : List Step} {nd nd' : List Need}, stepsF p a x pv nd r = some nd' → nd'.length ≤ nd.length + r.length
  | [], x, pv, nd, nd', h => by
    have : nd = nd' := by cases x <;> simpa [stepsF] using h
    subst this; simp
  | s :: r, none, pv, nd, nd', h => by simp [stepsF] at h
  | s :: r, some x, pv, nd, nd', h => by
    unfold stepsF at h
    split at h
    · cases h
    · split at h
      · split at h
        · cases h; simp
        · cases h
      · split at h
        · cases h
        · split at h
          · cases h
          · have h1 := stepsF_len h
            rename_i w _ _
            have h2 := addN_len nd s.elem w.pos
            simp only [List.length_cons]; omega

section
variable {p : Plan} {n : Net}

theorem pre_loop (r : Road) (e : Step) (i : Nat) (hl : r.steps.length < 1000) : ∃ t, loopR (g_road_Is_l2 e (r.steps.take i)) 0 = some t ∧ decide (0 ≤ t) = decide (e.elem ∈ (r.steps.take i).map (·.elem)) := by
  obtain ⟨t, h1, h2⟩ := index_loop (l := r.steps.take i) (f := fun s => s.elem == e.elem) (step := g_road_Is_l2 e (r.steps.take i)) (by rw [List.length_take]; omega)
    (by simp [g_road_Is_l2]) (fun j s hs => by
      have := ilt hs
      rw [List.length_take] at this
      simp only [g_road_Is_l2, g_road_Is_1, dlt hs, cond_true, idx_nat, hs, Option.bind_some, wi64_succ (show j < 1000000000 by omega)]
      by_cases c : s.elem = e.elem <;> simp [c, cbeq])
  refine ⟨t, h1, ?_⟩
  rcases h2 with ⟨rfl, h⟩ | ⟨s, h3, h4, _⟩
  · rw [show decide ((0 : Int) ≤ -1) = false by decide]
    symm; rw [decide_eq_false_iff_not]; intro hm
    obtain ⟨s, hs, he⟩ := List.mem_map.1 hm
    have := List.find?_eq_none.1 h s hs
    simp [he] at this
  · rw [decide_eq_true h3]
    symm; rw [decide_eq_true_iff]
    have := List.find?_some h4
    exact List.mem_map.2 ⟨s, List.mem_of_find?_eq_some h4, by simpa using this⟩

theorem way_loop (s : Step) (l : List Way) (hl : l.length < 1000) : ∃ t, loopR (g_road_Is_l3 s l) 0 = some t ∧ ((t = -1 ∧ wayF l s.out = none) ∨ ∃ w, 0 ≤ t ∧ wayF l s.out = some w ∧ idx l t = some w) := by
  obtain ⟨t, h1, h2⟩ := index_loop (l := l) (f := fun w => w.out == s.out) (step := g_road_Is_l3 s l) (by omega)
    (by simp [g_road_Is_l3]) (fun j w hs => by
      have := ilt hs
      simp only [g_road_Is_l3, g_road_Is_2, dlt hs, cond_true, idx_nat, hs, Option.bind_some, wi64_succ (show j < 1000000000 by omega)]
      by_cases c : w.out = s.out <;> simp [c, cbeq])
  exact ⟨t, h1, h2⟩

theorem take_slI {α : Type} (l : List α) (i : Nat) (h : i ≤ l.length) : slI l 0 (i : Int) = some (l.take i) := by
  unfold slI
  rw [if_pos ⟨by omega, by omega, by omega⟩]; simp

/-- What the program's loop over the steps makes of them. -/
def sumF (o : Option (List Need)) : List Need ⊕ Bool := match o with | none => .inr false | some nd => .inl nd

theorem Is_loop (hn : NetOf p n) (r : Road) (a : Port) (b : Bool) (hl : r.steps.length ≤ 12) : ∀ (l : List Step) (i : Nat) (x : Option Port) (nd : List Need), r.steps.drop i = l → i ≤ r.steps.length → nd.length ≤ i →
    loopR (g_road_Is_l1 n r (a, b)) (x.isSome, (i : Int), (x.getD ⟨0, 0⟩).elem, (x.getD ⟨0, 0⟩).fin, nd) = some (sumF (stepsF p a.elem x (r.steps.take i) nd l))
  | [], i, x, nd, hd, hi, hnd => by
    have : i = r.steps.length := by have := congrArg List.length hd; simp at this; omega
    subst this
    refine loopR_inr ?_
    have : stepsF p a.elem x (r.steps.take r.steps.length) nd [] = some nd := by cases x <;> rfl
    rw [this]
    simp only [g_road_Is_l1, dge, cond_false]; rfl
  | s :: l, i, x, nd, hd, hi, hnd => by
    have hlt : i < r.steps.length := by have := congrArg List.length hd; simp at this; omega
    have hs : r.steps[i]? = some s := by
      have : (r.steps.drop i)[0]? = some s := by rw [hd]; rfl
      simpa using this
    have hr : r.steps.drop (i + 1) = l := by
      have : (r.steps.drop i).drop 1 = l := by rw [hd]; rfl
      rwa [List.drop_drop] at this
    have htk : r.steps.take (i + 1) = r.steps.take i ++ [s] := by rw [List.take_add_one, hs]; rfl
    have hw : wi64 ((r.steps.length : Int) - 1) = (r.steps.length : Int) - 1 := by rw [wi64_id] <;> omega
    have hlast : ((i : Int) == (r.steps.length : Int) - 1) = decide (l = []) := by
      have hlen := congrArg List.length hr
      rw [List.length_drop] at hlen
      by_cases c : l = []
      · subst c; simp at hlen; rw [beq_iff_eq.2 (by omega)]; simp
      · have : l.length ≠ 0 := fun h => c (List.length_eq_zero_iff.1 h)
        rw [beq_eq_false_iff_ne.2 (by omega)]; simp [c]
    cases x with
    | none =>
      refine loopR_inr ?_
      simp only [g_road_Is_l1, dlt hs, cond_true, idx_nat, hs, Option.bind_some, Option.isSome_none, Bool.not_false]
      rfl
    | some y =>
      have e0 : ∀ (c : Prop) [Decidable c], c → (s.elem ≠ y.elem ∨ s.in_ ≠ y.fin ∨ s.elem = a.elem ∨ s.elem ∈ (r.steps.take i).map (·.elem)) → True := fun _ _ _ _ => trivial
      by_cases c1 : s.elem = y.elem
      · by_cases c2 : s.in_ = y.fin
        · by_cases c3 : s.elem = a.elem
          · refine loopR_inr ?_
            unfold stepsF
            rw [if_pos (.inr (.inr (.inl c3)))]
            simp only [g_road_Is_l1, dlt hs, cond_true, idx_nat, hs, Option.bind_some, Option.isSome_some, Option.getD_some, Bool.not_true, cond_false, cbne, cbeq, if_pos c1, if_pos c2, if_pos c3]
            rfl
          · obtain ⟨t, t1, t2⟩ := pre_loop r s i (by omega)
            by_cases c4 : s.elem ∈ (r.steps.take i).map (·.elem)
            · refine loopR_inr ?_
              unfold stepsF
              rw [if_pos (.inr (.inr (.inr c4)))]
              rw [decide_eq_true c4] at t2
              simp only [g_road_Is_l1, dlt hs, cond_true, idx_nat, hs, Option.bind_some, Option.isSome_some, Option.getD_some, Bool.not_true, cond_false, cbne, cbeq, if_pos c1, if_pos c2, if_neg c3, take_slI r.steps i hi, t1, t2]
              rfl
            · rw [decide_eq_false c4] at t2
              unfold stepsF
              rw [if_neg (by rintro (h | h | h | h) <;> first | exact h c1 | exact h c2 | exact c3 h | exact c4 h)]
              by_cases k4 : kindP p s.elem = 4
              · refine loopR_inr ?_
                rw [if_pos k4]
                simp only [g_road_Is_l1, dlt hs, cond_true, idx_nat, hs, Option.bind_some, Option.isSome_some, Option.getD_some, Bool.not_true, cond_false, cbne, cbeq, if_pos c1, if_pos c2, if_neg c3, take_slI r.steps i hi, t1, t2, net_Kind hn, if_pos k4, hw, hlast]
                by_cases d1 : l = []
                · by_cases d2 : s.out = -1
                  · simp [d1, d2, sumF]
                  · simp [d1, d2, sumF, cbne]
                · simp [d1, sumF]
              · rw [if_neg k4]
                obtain ⟨u, u1, u2⟩ := way_loop s (outsP p s.elem s.in_) (by have := outsP_len p s.elem s.in_; omega)
                rcases u2 with ⟨rfl, u2⟩ | ⟨w, u2, u3, u4⟩
                · refine loopR_inr ?_
                  rw [u2]
                  simp only [g_road_Is_l1, dlt hs, cond_true, idx_nat, hs, Option.bind_some, Option.isSome_some, Option.getD_some, Bool.not_true, cond_false, cbne, cbeq, if_pos c1, if_pos c2, if_neg c3, take_slI r.steps i hi, t1, t2, net_Kind hn, if_neg k4, net_Outs hn, u1, show decide ((-1 : Int) < 0) = true by decide]
                  rfl
                · rw [u3]
                  dsimp only
                  have du : decide (u < 0) = false := by simp; omega
                  have hnl : (addN nd s.elem w.pos).length ≤ i + 1 := by have := addN_len nd s.elem w.pos; omega
                  have hneed : ((bif w.pos != 0 then (appI nd [(⟨s.elem, w.pos⟩ : Need)]).bind fun y => some y else some nd : Option (List Need))) = some (addN nd s.elem w.pos) := by
                    rw [cbne]; unfold addN
                    by_cases e : w.pos = 0
                    · simp [e]
                    · simp only [if_neg e]
                      rw [appI_ok (by simp; omega)]; rfl
                  simp only [cbne] at hneed
                  by_cases d1 : l = []
                  · simp only [d1, ne_eq, not_true_eq_false, false_and, if_false]
                    have ih := Is_loop hn r a b hl l (i + 1) (nextP p ⟨s.elem, s.out⟩) (addN nd s.elem w.pos) hr (by omega) hnl
                    rw [htk, d1] at ih
                    rw [← ih]
                    refine loopR_inl ?_
                    simp only [g_road_Is_l1, dlt hs, cond_true, idx_nat, hs, Option.bind_some, Option.isSome_some, Option.getD_some, Bool.not_true, cond_false, cbne, cbeq, if_pos c1, if_pos c2, if_neg c3, take_slI r.steps i hi, t1, t2, net_Kind hn, if_neg k4, net_Outs hn, u1, du, u4, hneed, hw, hlast, d1, decide_true, net_Next hn, wi64_succ (show i < 1000000000 by omega)]
                  · by_cases d2 : 0 ≤ readsP p ⟨s.elem, s.out⟩
                    · rw [if_pos ⟨d1, d2⟩]
                      refine loopR_inr ?_
                      simp only [g_road_Is_l1, dlt hs, cond_true, idx_nat, hs, Option.bind_some, Option.isSome_some, Option.getD_some, Bool.not_true, cond_false, cbne, cbeq, if_pos c1, if_pos c2, if_neg c3, take_slI r.steps i hi, t1, t2, net_Kind hn, if_neg k4, net_Outs hn, u1, du, u4, hneed, hw, hlast, d1, decide_false, Bool.not_false, net_Reads hn, d2, decide_true]
                      rfl
                    · rw [if_neg (fun h => d2 h.2)]
                      have ih := Is_loop hn r a b hl l (i + 1) (nextP p ⟨s.elem, s.out⟩) (addN nd s.elem w.pos) hr (by omega) hnl
                      rw [htk] at ih
                      rw [← ih]
                      refine loopR_inl ?_
                      simp only [g_road_Is_l1, dlt hs, cond_true, idx_nat, hs, Option.bind_some, Option.isSome_some, Option.getD_some, Bool.not_true, cond_false, cbne, cbeq, if_pos c1, if_pos c2, if_neg c3, take_slI r.steps i hi, t1, t2, net_Kind hn, if_neg k4, net_Outs hn, u1, du, u4, hneed, hw, hlast, d1, decide_false, Bool.not_false, net_Reads hn, d2, net_Next hn, wi64_succ (show i < 1000000000 by omega)]
        · refine loopR_inr ?_
          unfold stepsF
          rw [if_pos (.inr (.inl c2))]
          simp only [g_road_Is_l1, dlt hs, cond_true, idx_nat, hs, Option.bind_some, Option.isSome_some, Option.getD_some, Bool.not_true, cond_false, cbne, cbeq, if_pos c1, if_neg c2]
          rfl
      · refine loopR_inr ?_
        unfold stepsF
        rw [if_pos (.inl c1)]
        simp only [g_road_Is_l1, dlt hs, cond_true, idx_nat, hs, Option.bind_some, Option.isSome_some, Option.getD_some, Bool.not_true, cond_false, cbne, cbeq, if_neg c1]
        rfl

theorem ends_eq (hn : NetOf p n) (r : Road) (l : Step) : g_road_ends n r l = some (tailF p r.fin r.to l) := by
  unfold g_road_ends tailF
  simp only [net_Kind hn, net_Reads hn, net_Next hn, Option.bind_some, cbeq]
  by_cases h1 : kindP p l.elem = 4
  · by_cases h2 : r.fin = 2 <;> simp [h1, h2, Bool.beq_eq_decide_eq]
    all_goals try rfl
  · by_cases h2 : 0 ≤ readsP p ⟨l.elem, l.out⟩
    · by_cases h3 : r.fin = 1 <;> simp [h1, h2, h3]
      all_goals try rfl
    · cases nextP p ⟨l.elem, l.out⟩ with
      | none =>
        by_cases h3 : r.fin = 3 <;> simp [h1, h2, h3]
        all_goals try rfl
      | some y => simp [h1, h2]

theorem last_idx {α : Type} (l : List α) (h : 1 ≤ l.length) (h2 : l.length < 1000000) : idx l (wi64 ((l.length : Int) - 1)) = l.getLast? := by
  have : wi64 ((l.length : Int) - 1) = ((l.length - 1 : Nat) : Int) := by rw [wi64_id] <;> omega
  rw [this, idx_nat, List.getLast?_eq_getElem?]

theorem road_Is_eq (hn : NetOf p n) (r : Road) (h2 : r.needs.length ≤ 1000) : g_road_Is n r = some (isF p r) := by
  unfold g_road_Is isF
  rw [net_At_eq hn]
  cases hi : idx p.signals r.frm with
  | none => rfl
  | some sg =>
    simp only [Option.bind_some, Bool.not_true, cond_false]
    by_cases c1 : r.steps.length < 1
    · have d : decide ((r.steps.length : Int) < 1) = true := by simp; omega
      rw [if_pos (.inl c1)]
      simp only [d, cond_true, Option.bind_some]
    · have d : decide ((r.steps.length : Int) < 1) = false := by simp; omega
      by_cases c2 : 12 < r.steps.length
      · have d2 : decide (12 < (r.steps.length : Int)) = true := by simp; omega
        rw [if_pos (.inr c2)]
        simp only [d, d2, cond_true, cond_false, Option.bind_some]
      · have d2 : decide (12 < (r.steps.length : Int)) = false := by simp; omega
        rw [if_neg (by omega)]
        simp only [d, d2, cond_false, Option.bind_some, net_Next hn]
        have hloop := Is_loop hn r sg.at_ true (by omega) r.steps 0 (nextP p sg.at_) [] rfl (by omega) (by simp)
        rw [List.take_zero] at hloop
        rw [show ((0 : Nat) : Int) = 0 from rfl] at hloop
        rw [hloop]
        cases hs : stepsF p sg.at_.elem (nextP p sg.at_) [] [] r.steps with
        | none => rfl
        | some nd =>
          have hlen := stepsF_len hs
          rw [last_idx r.steps (by omega) (by omega)]
          obtain ⟨l, hl⟩ : ∃ l, r.steps.getLast? = some l := by
            rw [List.getLast?_eq_getElem?]; exact ⟨_, List.getElem?_eq_getElem (by omega)⟩
          simp only [sumF, seqR, Option.bind_some, hl, ends_eq hn, eqNeeds r.needs nd (by omega)]
          cases tailF p r.fin r.to l <;> simp

/-! ### the document's test -/
def J0 (p : Plan) : Port → List Int → List Step → Bool
  | _, _, [] => true
  | f, met, s :: r => match nextP p f with
    | none => false
    | some x => if x.elem ≠ s.elem ∨ x.fin ≠ s.in_ ∨ s.elem ∈ met then false else (decide (r = []) || decide (readsP p ⟨s.elem, s.out⟩ < 0)) && J0 p ⟨s.elem, s.out⟩ (met ++ [s.elem]) r

def needsF (p : Plan) : List Need → List Step → Option (List Need)
  | nd, [] => some nd
  | nd, s :: r => match wayF (outsP p s.elem s.in_) s.out with
    | some w => needsF p (addN nd s.elem w.pos) r
    | none => if kindP p s.elem = 4 ∧ s.in_ = 0 ∧ s.out = -1 ∧ r = [] then some nd else none

theorem joined_eq (hf : FewP p) (l : List Step) (hl : l.length ≤ 100) : ∀ (r : List Step) (i : Nat) (f : Port) (met : List Int), l.drop i = r → i ≤ l.length → met.length ≤ i + 1 →
    loopR (g_R12_joined_l1 p l) ((i : Int), met, f.elem, f.fin) = some ((decide (r = []) || decide (i = 0) || decide (readsP p f < 0)) && J0 p f met r)
  | [], i, f, met, hd, hi, hm => by
    have : i = l.length := by have := congrArg List.length hd; simp at this; omega
    subst this
    exact loopR_inr (by simp [g_R12_joined_l1, J0])
  | s :: r, i, f, met, hd, hi, hm => by
    have hlt : i < l.length := by have := congrArg List.length hd; simp at this; omega
    have hs : l[i]? = some s := by
      have : (l.drop i)[0]? = some s := by rw [hd]; rfl
      simpa using this
    have hr : l.drop (i + 1) = r := by
      have : (l.drop i).drop 1 = r := by rw [hd]; rfl
      rwa [List.drop_drop] at this
    have hj : p.joins.length < 1000000 := by have := hf.joins; omega
    have hsg : p.signals.length < 1000000 := by have := hf.signals; omega
    unfold J0
    cases hx : nextP p f with
    | none =>
      refine loopR_inr ?_
      simp only [g_R12_joined_l1, dlt hs, cond_true, g_R6_Next_eq p hj, hx, Option.bind_some, Option.isSome_none, Bool.not_false, Bool.and_false]
    | some x =>
      by_cases c1 : x.elem = s.elem
      · by_cases c2 : x.fin = s.in_
        · by_cases c3 : s.elem ∈ met
          · refine loopR_inr ?_
            simp only [if_pos (show x.elem ≠ s.elem ∨ x.fin ≠ s.in_ ∨ s.elem ∈ met from .inr (.inr c3)), Bool.and_false]
            simp only [g_R12_joined_l1, dlt hs, cond_true, g_R6_Next_eq p hj, hx, Option.bind_some, Option.isSome_some, Option.getD_some, Bool.not_true, cond_false, idx_nat, hs, cbne, if_pos c1, if_pos c2, In_eq met (by omega), decide_eq_true c3]
          · simp only [if_neg (show ¬ (x.elem ≠ s.elem ∨ x.fin ≠ s.in_ ∨ s.elem ∈ met) by rintro (h | h | h) <;> first | exact h c1 | exact h c2 | exact c3 h)]
            by_cases c4 : 0 < i ∧ 0 ≤ readsP p f
            · refine loopR_inr ?_
              have d : decide ((0 : Int) < (i : Int)) = true := by simp; omega
              have e : decide (readsP p f < 0) = false := by simp; omega
              have e2 : decide (i = 0) = false := by simp; omega
              simp only [g_R12_joined_l1, dlt hs, cond_true, g_R6_Next_eq p hj, hx, Option.bind_some, Option.isSome_some, Option.getD_some, Bool.not_true, cond_false, idx_nat, hs, cbne, if_pos c1, if_pos c2, In_eq met (by omega), decide_eq_false c3, d, g_R6_Reads_eq p hsg, decide_eq_true c4.2, e, e2]
              simp
            · have hh : ((bif decide ((0 : Int) < (i : Int)) then (some (readsP p ⟨f.elem, f.fin⟩)).bind fun y => some (decide (0 ≤ y)) else some false : Option Bool)) = some false := by
                by_cases d : 0 < i
                · have d1 : decide ((0 : Int) < (i : Int)) = true := by simp; omega
                  have d2 : decide (0 ≤ readsP p f) = false := by simp; omega
                  simp only [d1, cond_true, Option.bind_some, d2]
                · have d1 : decide ((0 : Int) < (i : Int)) = false := by simp; omega
                  simp only [d1, cond_false]
              have ih := joined_eq hf l hl r (i + 1) ⟨s.elem, s.out⟩ (met ++ [s.elem]) hr (by omega) (by simp; omega)
              rw [loopR_inl (s' := (((i + 1 : Nat) : Int), met ++ [s.elem], s.elem, s.out)) (by
                simp only [g_R12_joined_l1, dlt hs, cond_true, g_R6_Next_eq p hj, hx, Option.bind_some, Option.isSome_some, Option.getD_some, Bool.not_true, cond_false, idx_nat, hs, cbne, if_pos c1, if_pos c2, In_eq met (by omega), decide_eq_false c3, g_R6_Reads_eq p hsg]
                simp only [Option.bind_some] at hh
                rw [hh]
                simp only [Option.bind_some, cond_false]
                rw [appI_ok (by simp; omega)]
                simp only [Option.bind_some, wi64_succ (show i < 1000000000 by omega)]), ih]
              have e3 : (decide (s :: r = []) || decide (i = 0) || decide (readsP p f < 0)) = true := by
                by_cases d : i = 0
                · simp [d]
                · have : decide (readsP p f < 0) = true := by simp; omega
                  simp [this]
              rw [e3]
              simp
        · refine loopR_inr ?_
          simp only [if_pos (show x.elem ≠ s.elem ∨ x.fin ≠ s.in_ ∨ s.elem ∈ met from .inr (.inl c2)), Bool.and_false]
          simp only [g_R12_joined_l1, dlt hs, cond_true, g_R6_Next_eq p hj, hx, Option.bind_some, Option.isSome_some, Option.getD_some, Bool.not_true, cond_false, idx_nat, hs, cbne, if_pos c1, if_neg c2]
      · refine loopR_inr ?_
        simp only [if_pos (show x.elem ≠ s.elem ∨ x.fin ≠ s.in_ ∨ s.elem ∈ met from .inl c1), Bool.and_false]
        simp only [g_R12_joined_l1, dlt hs, cond_true, g_R6_Next_eq p hj, hx, Option.bind_some, Option.isSome_some, Option.getD_some, Bool.not_true, cond_false, idx_nat, hs, cbne, if_neg c1]

end
end Go.E
/- Plain Lean: whether something is a road, as the document says; the roads of a signal are roads, and none is told twice. No condition. -/
namespace Go.E
open Go

theorem outs_dist (p : Plan) (e i : Int) : (outsP p e i).Pairwise (fun a b => a.out ≠ b.out) := by
  unfold outsP
  repeat' split
  all_goals simp

theorem outs_fact {p : Plan} {e i : Int} {w : Way} (h : w ∈ outsP p e i) : 0 ≤ w.out ∧ w.out < endsF (kindP p e) ∧ 0 ≤ i ∧ i < endsF (kindP p e) ∧ kindP p e ≠ 4 ∧ (w.pos ≠ 0 → kindP p e = 2 ∧ (w.pos = 1 ∨ w.pos = 2)) := by
  unfold outsP at h
  cases hh : hasP p ⟨e, i⟩ with
  | false => rw [hh] at h; simp at h
  | true =>
    obtain ⟨h1, h2, h3⟩ := hasP_fin hh
    simp only at h1 h2 h3
    rw [hh] at h
    simp only [if_true] at h
    by_cases k1 : kindP p e = 1
    · rw [k1] at h h3 ⊢
      simp [endsF] at h h3 ⊢
      subst h
      simp; omega
    · by_cases k3 : kindP p e = 3
      · rw [k3] at h h3 ⊢
        simp [endsF] at h h3 ⊢
        subst h
        simp
        split
        · omega
        · split
          · omega
          · split <;> omega
      · by_cases k2 : kindP p e = 2
        · rw [k2] at h h3 ⊢
          simp [endsF] at h h3 ⊢
          by_cases i0 : i = 0
          · subst i0
            simp at h
            rcases h with rfl | rfl <;> simp
          · rw [if_neg i0] at h
            simp at h
            subst h
            simp; omega
        · rw [if_neg k1, if_neg k3, if_neg k2] at h; simp at h

theorem wayF_some {l : List Way} {o : Int} {w : Way} (h : wayF l o = some w) : w ∈ l ∧ w.out = o := by
  refine ⟨List.mem_of_find?_eq_some h, ?_⟩
  have := List.find?_some h
  simpa using this

theorem wayF_mem : ∀ {l : List Way} {w : Way}, l.Pairwise (fun a b => a.out ≠ b.out) → w ∈ l → wayF l w.out = some w
  | a :: l, w, hp, hm => by
    rw [List.pairwise_cons] at hp
    unfold wayF
    rw [List.find?_cons]
    rcases List.mem_cons.1 hm with rfl | hm
    · simp
    · have := hp.1 w hm
      have e : (a.out == w.out) = false := beq_eq_false_iff_ne.2 this
      simp only [e]
      exact wayF_mem hp.2 hm

section
variable {p : Plan} {n : Net}

/-- What comes behind the ways of one step. -/
def finN (p : Plan) (l : List Step) (i : Nat) (s : Step) (ok : Bool) (nd : List Need) : (Int × List Need) ⊕ (List Need × Bool) :=
  if ok = true ∨ (kindP p s.elem = 4 ∧ s.in_ = 0 ∧ s.out = -1 ∧ i + 1 = l.length) then .inl (((i + 1 : Nat) : Int), nd) else .inr ([], false)

theorem needs_ways (l : List Step) (hl : l.length ≤ 100) (i : Nat) (s : Step) (hs : l[i]? = some s) (nd0 : List Need) (ws : List Way) (hws : ws.length ≤ 100) : ∀ (r : List Way) (k : Nat) (ok : Bool) (nd : List Need), ws.drop k = r → k ≤ ws.length → r.Pairwise (fun a b => a.out ≠ b.out) → (ok = true → wayF r s.out = none) → nd.length + r.length ≤ 1000 →
    loopR (g_R12_needs_l2 p l ((i : Int), nd0) ws) (ok, (k : Int), nd) = some (match wayF r s.out with | some w => finN p l i s true (addN nd s.elem w.pos) | none => finN p l i s ok nd)
  | [], k, ok, nd, hd, hk, hp, hok, hnd => by
    have : k = ws.length := by have := congrArg List.length hd; simp at this; omega
    subst this
    have hi := ilt hs
    refine loopR_inr ?_
    have hw : wi64 ((l.length : Int) - 1) = (l.length : Int) - 1 := by rw [wi64_id] <;> omega
    simp only [g_R12_needs_l2, dge, cond_false, idx_nat, hs, Option.bind_some, g_R6_Kind_eq, cbne, hw, wi64_succ (show i < 1000000000 by omega), wayF, List.find?_nil, finN]
    cases ok with
    | true => simp
    | false =>
      by_cases c1 : kindP p s.elem = 4
      · by_cases c2 : s.in_ = 0
        · by_cases c3 : s.out = -1
          · by_cases c4 : i + 1 = l.length
            · have : (i : Int) = (l.length : Int) - 1 := by omega
              simp [c1, c2, c3, c4, this]
            · have : (i : Int) ≠ (l.length : Int) - 1 := by omega
              have e : ((i : Int) != (l.length : Int) - 1) = true := bne_iff_ne.2 this
              simp [c1, c2, c3, c4, e]
          · simp [c1, c2, c3]
        · simp [c1, c2]
      · simp [c1]
  | w :: r, k, ok, nd, hd, hk, hp, hok, hnd => by
    have hlt : k < ws.length := by have := congrArg List.length hd; simp at this; omega
    have ha : ws[k]? = some w := by
      have : (ws.drop k)[0]? = some w := by rw [hd]; rfl
      simpa using this
    have hr : ws.drop (k + 1) = r := by
      have : (ws.drop k).drop 1 = r := by rw [hd]; rfl
      rwa [List.drop_drop] at this
    rw [List.pairwise_cons] at hp
    by_cases c : w.out = s.out
    · have hnone : wayF r s.out = none := by
        unfold wayF
        rw [List.find?_eq_none]
        intro v hv
        have := hp.1 v hv
        simp only [beq_iff_eq]; omega
      have hsome : wayF (w :: r) s.out = some w := by simp [wayF, c]
      have ih := needs_ways l hl i s hs nd0 ws hws r (k + 1) true (addN nd s.elem w.pos) hr (by omega) hp.2 (fun _ => hnone) (by
        have := addN_len nd s.elem w.pos
        simp only [List.length_cons] at hnd; omega)
      rw [hnone] at ih
      rw [hsome]
      simp only
      rw [← ih]
      refine loopR_inl ?_
      simp only [g_R12_needs_l2, dlt ha, cond_true, idx_nat, ha, hs, Option.bind_some, cbne, if_pos c, wi64_succ (show k < 1000000000 by omega)]
      unfold addN
      by_cases e : w.pos = 0
      · simp [e]
      · simp only [if_neg e]
        rw [appI_ok (by simp only [List.length_cons, List.length_nil] at hnd ⊢; omega)]
        rfl
    · have e : (w.out == s.out) = false := beq_eq_false_iff_ne.2 c
      have hsame : wayF (w :: r) s.out = wayF r s.out := by simp [wayF, e]
      rw [hsame]
      rw [← needs_ways l hl i s hs nd0 ws hws r (k + 1) ok nd hr (by omega) hp.2 (fun h => by rw [← hsame]; exact hok h) (by simp only [List.length_cons] at hnd; omega)]
      refine loopR_inl ?_
      simp only [g_R12_needs_l2, dlt ha, cond_true, idx_nat, ha, hs, Option.bind_some, cbne, if_neg c, wi64_succ (show k < 1000000000 by omega)]

theorem needs_eq (l : List Step) (hl : l.length ≤ 100) : ∀ (r : List Step) (i : Nat) (nd : List Need), l.drop i = r → i ≤ l.length → nd.length ≤ i →
    loopR (g_R12_needs_l1 p l) ((i : Int), nd) = some (match needsF p nd r with | some m => (m, true) | none => ([], false))
  | [], i, nd, hd, hi, hn => by
    have : i = l.length := by have := congrArg List.length hd; simp at this; omega
    subst this
    exact loopR_inr (by simp [g_R12_needs_l1, needsF])
  | s :: r, i, nd, hd, hi, hn => by
    have hlt : i < l.length := by have := congrArg List.length hd; simp at this; omega
    have hs : l[i]? = some s := by
      have : (l.drop i)[0]? = some s := by rw [hd]; rfl
      simpa using this
    have hr : l.drop (i + 1) = r := by
      have : (l.drop i).drop 1 = r := by rw [hd]; rfl
      rwa [List.drop_drop] at this
    have hrl : (i + 1 = l.length) = (r = []) := by
      have := congrArg List.length hr
      rw [List.length_drop] at this
      rw [← List.length_eq_zero_iff]
      exact propext ⟨fun h => by omega, fun h => by omega⟩
    have hol := outsP_len p s.elem s.in_
    have hw := needs_ways (p := p) l hl i s hs nd (outsP p s.elem s.in_) (by omega) (outsP p s.elem s.in_) 0 false nd rfl (by omega) (outs_dist p s.elem s.in_) (by simp) (by omega)
    have hstep : g_R12_needs_l1 p l ((i : Int), nd) = loopR (g_R12_needs_l2 p l ((i : Int), nd) (outsP p s.elem s.in_)) (false, 0, nd) := by
      simp only [g_R12_needs_l1, dlt hs, cond_true, idx_nat, hs, Option.bind_some, R6_Outs_eq]
    rw [show ((0 : Nat) : Int) = 0 from rfl] at hw
    rw [hw] at hstep
    unfold needsF
    cases hf : wayF (outsP p s.elem s.in_) s.out with
    | some w =>
      rw [hf] at hstep
      simp only [finN, true_or, if_true] at hstep
      rw [loopR_inl hstep, needs_eq l hl r (i + 1) _ hr (by omega) (by have := addN_len nd s.elem w.pos; omega)]
    | none =>
      rw [hf] at hstep
      simp only [finN, hrl] at hstep
      by_cases c : kindP p s.elem = 4 ∧ s.in_ = 0 ∧ s.out = -1 ∧ r = []
      · rw [if_pos (.inr c)] at hstep
        rw [loopR_inl hstep, needs_eq l hl r (i + 1) _ hr (by omega) (by omega), c.2.2.2]
        simp [needsF, c.1, c.2.1, c.2.2.1]
      · rw [if_neg (fun h => h.elim (fun h => Bool.noConfusion h) c)] at hstep
        rw [loopR_inr hstep]
        simp only [if_neg c]

theorem stepsF_eq (hv : Valid p) (a : Int) : ∀ (r : List Step) (f : Port) (pv : List Step) (nd : List Need), stepsF p a (nextP p f) pv nd r = if J0 p f (a :: pv.map (·.elem)) r = true then needsF p nd r else none
  | [], f, pv, nd => by cases nextP p f <;> simp [stepsF, J0, needsF]
  | s :: r, f, pv, nd => by
    unfold J0
    cases hx : nextP p f with
    | none => simp [stepsF]
    | some x =>
      have hport := hv.join.next hx
      by_cases c : s.elem ≠ x.elem ∨ s.in_ ≠ x.fin ∨ s.elem = a ∨ s.elem ∈ pv.map (·.elem)
      · have c' : x.elem ≠ s.elem ∨ x.fin ≠ s.in_ ∨ s.elem ∈ a :: pv.map (·.elem) := by
          rcases c with h | h | h | h
          · exact .inl (Ne.symm h)
          · exact .inr (.inl (Ne.symm h))
          · exact .inr (.inr (by rw [h]; simp))
          · exact .inr (.inr (List.mem_cons_of_mem _ h))
        simp only [stepsF, if_pos c, if_pos c', Bool.false_eq_true, if_false]
      · have c' : ¬ (x.elem ≠ s.elem ∨ x.fin ≠ s.in_ ∨ s.elem ∈ a :: pv.map (·.elem)) := by
          rintro (h | h | h)
          · exact c (.inl (Ne.symm h))
          · exact c (.inr (.inl (Ne.symm h)))
          · rcases List.mem_cons.1 h with h | h
            · exact c (.inr (.inr (.inl h)))
            · exact c (.inr (.inr (.inr h)))
        have e1 : s.elem = x.elem := Decidable.not_not.1 fun h => c (.inl h)
        have e2 : s.in_ = x.fin := Decidable.not_not.1 fun h => c (.inr (.inl h))
        unfold stepsF
        simp only [if_neg c, if_neg c']
        by_cases k4 : kindP p s.elem = 4
        · have i0 : s.in_ = 0 := by
            obtain ⟨h1, h2, h3⟩ := hasP_fin hport
            rw [← e1, k4] at h3
            simp [endsF] at h3
            omega
          have hw : wayF (outsP p s.elem s.in_) s.out = none := by rw [outs_gate k4]; rfl
          simp only [if_pos k4, needsF, hw]
          by_cases d : s.out = -1 ∧ r = []
          · have : J0 p ⟨s.elem, s.out⟩ (a :: pv.map (·.elem) ++ [s.elem]) r = true := by rw [d.2]; rfl
            rw [this]; simp [d.1, d.2, k4, i0]
          · rw [if_neg (show ¬ (r = [] ∧ s.out = -1) from fun h => d ⟨h.2, h.1⟩), if_neg (show ¬ (kindP p s.elem = 4 ∧ s.in_ = 0 ∧ s.out = -1 ∧ r = []) from fun h => d h.2.2)]; simp
        · simp only [if_neg k4, needsF]
          cases hw : wayF (outsP p s.elem s.in_) s.out with
          | none => simp [k4]
          | some w =>
            have ih := stepsF_eq hv a r ⟨s.elem, s.out⟩ (pv ++ [s]) (addN nd s.elem w.pos)
            rw [List.map_append] at ih
            simp only
            by_cases d : r = []
            · rw [if_neg (fun h => h.1 d), ih, d]; simp [J0]
            · by_cases d2 : 0 ≤ readsP p ⟨s.elem, s.out⟩
              · rw [if_pos ⟨d, d2⟩]
                have : decide (readsP p ⟨s.elem, s.out⟩ < 0) = false := by simp; omega
                simp [this, d]
              · rw [if_neg (fun h => d2 h.2), ih]
                have : decide (readsP p ⟨s.elem, s.out⟩ < 0) = true := by simp; omega
                simp [this]

/-- The last of steps that may follow. -/
theorem stepsF_last {a : Int} : ∀ {r : List Step} {x : Option Port} {pv : List Step} {nd nd' : List Need} {l : Step}, stepsF p a x pv nd r = some nd' → r.getLast? = some l → (kindP p l.elem = 4 ∧ l.out = -1) ∨ (kindP p l.elem ≠ 4 ∧ 0 ≤ l.out)
  | [], x, pv, nd, nd', l, h, hl => by simp at hl
  | s :: r, none, pv, nd, nd', l, h, hl => by simp [stepsF] at h
  | s :: r, some x, pv, nd, nd', l, h, hl => by
    unfold stepsF at h
    split at h
    · cases h
    · by_cases k4 : kindP p s.elem = 4
      · rw [if_pos k4] at h
        split at h
        · rename_i c
          rw [c.1] at hl
          simp at hl
          subst hl
          exact .inl ⟨k4, c.2⟩
        · cases h
      · rw [if_neg k4] at h
        cases hw : wayF (outsP p s.elem s.in_) s.out with
        | none => rw [hw] at h; cases h
        | some w =>
          rw [hw] at h
          simp only at h
          split at h
          · cases h
          · by_cases d : r = []
            · subst d
              simp at hl
              subst hl
              have h1 := wayF_some hw
              have h2 := outs_fact h1.1
              exact .inr ⟨k4, by omega⟩
            · obtain ⟨b, r', rfl⟩ := List.exists_cons_of_ne_nil d
              rw [List.getLast?_cons_cons] at hl
              exact stepsF_last h hl

theorem R12_Is_eq (hv : Valid p) (r : Road) (h2 : r.needs.length ≤ 1000) : g_R12_Is p r = some (isF p r) := by
  unfold g_R12_Is isF
  have hf := hv.few
  rw [At_eq]
  cases hi : idx p.signals r.frm with
  | none => rfl
  | some sg =>
    simp only [Option.bind_some, Bool.not_true, cond_false]
    by_cases c1 : r.steps.length < 1
    · have d : decide ((r.steps.length : Int) < 1) = true := by simp; omega
      rw [if_pos (.inl c1)]
      simp only [d, cond_true, Option.bind_some]
    · have d : decide ((r.steps.length : Int) < 1) = false := by simp; omega
      by_cases c2 : 12 < r.steps.length
      · have d2 : decide (12 < (r.steps.length : Int)) = true := by simp; omega
        rw [if_pos (.inr c2)]
        simp only [d, d2, cond_true, cond_false, Option.bind_some]
      · have d2 : decide (12 < (r.steps.length : Int)) = false := by simp; omega
        rw [if_neg (by omega)]
        have hj := joined_eq hf r.steps (by omega) r.steps 0 sg.at_ [sg.at_.elem] rfl (by omega) (by simp)
        have hnd := needs_eq (p := p) r.steps (by omega) r.steps 0 [] rfl (by omega) (by simp)
        rw [show ((0 : Nat) : Int) = 0 from rfl] at hj hnd
        have hs := stepsF_eq hv sg.at_.elem r.steps sg.at_ [] []
        simp only [List.map_nil] at hs
        simp only [d, d2, cond_false, Option.bind_some, g_R12_joined, hj, g_R12_needs, hnd, decide_true, Bool.or_true, Bool.true_or, Bool.true_and]
        cases hJ : J0 p sg.at_ [sg.at_.elem] r.steps with
        | false =>
          rw [hJ] at hs
          rw [hs]; simp
        | true =>
          rw [hJ] at hs
          simp only [if_true] at hs
          rw [hs]
          cases hn : needsF p [] r.steps with
          | none => simp
          | some nd =>
            rw [hn] at hs
            have hlen := stepsF_len hs
            rw [last_idx r.steps (by omega) (by omega)]
            obtain ⟨l, hl⟩ : ∃ l, r.steps.getLast? = some l := by
              rw [List.getLast?_eq_getElem?]; exact ⟨_, List.getElem?_eq_getElem (by omega)⟩
            simp only [Bool.not_true, cond_false, Option.bind_some, hl, eqNeeds2 nd r.needs (show nd.length < 1000000 by simp only [List.length_nil] at hlen; omega)]
            have hcomm : decide (nd = r.needs) = decide (r.needs = nd) := by simp [eq_comm]
            rw [hcomm]
            by_cases e : r.needs = nd
            · simp only [e, decide_true, Bool.not_true, cond_false, Bool.and_true]
              have hsg : p.signals.length < 1000000 := by have := hf.signals; omega
              have hjn : p.joins.length < 1000000 := by have := hf.joins; omega
              unfold tailF
              rcases stepsF_last hs hl with ⟨k1, k2⟩ | ⟨k1, k2⟩
              · have : decide (l.out < 0) = true := by simp; omega
                rw [if_pos k1]
                simp only [this, cond_true, cbeq]
                by_cases c : r.fin = 2 <;> simp [c]
                rfl
              · have : decide (l.out < 0) = false := by simp; omega
                rw [if_neg k1]
                simp only [this, cond_false, g_R6_Reads_eq p hsg, g_R6_Next_eq p hjn, Option.bind_some, cbeq]
                by_cases c : 0 ≤ readsP p ⟨l.elem, l.out⟩
                · by_cases c3 : r.fin = 1 <;> simp [c, c3]
                  rfl
                · cases nextP p ⟨l.elem, l.out⟩ with
                  | none =>
                    by_cases c3 : r.fin = 3 <;> simp [c, c3]
                    rfl
                  | some y => simp [c]
            · simp [e]

/-! ### the roads of a signal are roads -/
/-- A road that goes on from steps. -/
structure OnR (p : Plan) (a s : Int) (x : Port) (st : List Step) (nd : List Need) (r : Road) (t : List Step) : Prop where
  frm : r.frm = s
  guards : r.guards = []
  zone : r.zone = []
  holds : r.holds = []
  bare : r.bare = false
  steps : r.steps = st ++ t
  ne : t ≠ []
  len : r.steps.length ≤ 12
  all : stepsF p a (some x) st nd t = some r.needs
  tail : ∀ l, t.getLast? = some l → tailF p r.fin r.to l = true

theorem onF_road (s a : Int) : ∀ (k : Nat) (st : List Step) (nd : List Need) (x : Port) (r : Road), st.length + k = 13 → r ∈ onF p s k st nd x (a :: st.map (·.elem)) → ∃ t, OnR p a s x st nd r t ∧ ∃ u t', t = u :: t' ∧ u.elem = x.elem ∧ u.in_ = x.fin
  | 0, st, nd, x, r, hk, hr => by simp [onF] at hr
  | k + 1, st, nd, x, r, hk, hr => by
    rw [onF_succ] at hr
    by_cases hm : x.elem ∈ a :: st.map (·.elem) ∨ st.length = 12
    · rw [if_pos hm] at hr; simp at hr
    · rw [if_neg hm] at hr
      have hm1 : x.elem ∉ a :: st.map (·.elem) := fun h => hm (.inl h)
      have hm2 : ¬ (x.elem ≠ x.elem ∨ x.fin ≠ x.fin ∨ x.elem = a ∨ x.elem ∈ st.map (·.elem)) := by
        rintro (h1 | h1 | h1 | h1)
        · exact h1 rfl
        · exact h1 rfl
        · exact hm1 (by rw [h1]; simp)
        · exact hm1 (List.mem_cons_of_mem _ h1)
      have hlen : st.length < 12 := by
        have : st.length ≠ 12 := fun h => hm (.inr h)
        omega
      by_cases k4 : kindP p x.elem = 4
      · rw [if_pos k4] at hr
        simp at hr
        subst hr
        refine ⟨[⟨x.elem, x.fin, -1⟩], ⟨rfl, rfl, rfl, rfl, rfl, rfl, by simp, by simp [mkR]; omega, ?_, ?_⟩, _, _, rfl, rfl, rfl⟩
        · simp only [stepsF, if_neg hm2, if_pos k4, mkR, true_and, if_true]
        · intro l hl
          simp at hl
          subst hl
          simp [tailF, k4, mkR]
      · rw [if_neg k4] at hr
        obtain ⟨w, hw, hr⟩ := List.mem_flatMap.1 hr
        have hway := wayF_mem (outs_dist p x.elem x.fin) hw
        unfold wayR at hr
        by_cases hrd : 0 ≤ readsP p ⟨x.elem, w.out⟩
        · rw [if_pos hrd] at hr
          simp at hr
          subst hr
          refine ⟨[⟨x.elem, x.fin, w.out⟩], ⟨rfl, rfl, rfl, rfl, rfl, rfl, by simp, by simp [mkR]; omega, ?_, ?_⟩, _, _, rfl, rfl, rfl⟩
          · unfold stepsF; rw [if_neg hm2, if_neg k4, hway]; simp [stepsF, mkR]
          · intro l hl
            simp at hl
            subst hl
            simp [tailF, k4, mkR, hrd]
        · rw [if_neg hrd] at hr
          cases hnx : nextP p ⟨x.elem, w.out⟩ with
          | none =>
            rw [hnx] at hr
            simp at hr
            subst hr
            refine ⟨[⟨x.elem, x.fin, w.out⟩], ⟨rfl, rfl, rfl, rfl, rfl, rfl, by simp, by simp [mkR]; omega, ?_, ?_⟩, _, _, rfl, rfl, rfl⟩
            · unfold stepsF; rw [if_neg hm2, if_neg k4, hway]; simp [stepsF, mkR]
            · intro l hl
              simp at hl
              subst hl
              simp [tailF, k4, mkR, hrd, hnx]
          | some y =>
            rw [hnx] at hr
            have hmm : a :: st.map (·.elem) ++ [x.elem] = a :: (st ++ [(⟨x.elem, x.fin, w.out⟩ : Step)]).map (·.elem) := by simp
            simp only at hr
            rw [hmm] at hr
            obtain ⟨t, ht, u, t', htu, -, -⟩ := onF_road s a k (st ++ [⟨x.elem, x.fin, w.out⟩]) (addN nd x.elem w.pos) y r (by simp; omega) hr
            refine ⟨⟨x.elem, x.fin, w.out⟩ :: t, ⟨ht.frm, ht.guards, ht.zone, ht.holds, ht.bare, by rw [ht.steps]; simp, by simp, ht.len, ?_, ?_⟩, _, _, rfl, rfl, rfl⟩
            · unfold stepsF
              rw [if_neg hm2, if_neg k4, hway]
              dsimp only
              rw [if_neg (fun h => hrd h.2), hnx]
              exact ht.all
            · intro l hl
              refine ht.tail l ?_
              rw [htu] at hl ⊢
              rwa [List.getLast?_cons_cons] at hl

theorem ofF_road {s : Int} {r : Road} (h : r ∈ ofF p s) : isF p r = true ∧ r.frm = s ∧ r.guards = [] ∧ r.zone = [] ∧ r.holds = [] ∧ r.bare = false ∧ r.steps.length ≤ 12 ∧ 1 ≤ r.steps.length ∧ r.needs.length ≤ 12 := by
  unfold ofF at h
  cases hi : idx p.signals s with
  | none => rw [hi] at h; simp at h
  | some sg =>
    rw [hi] at h
    simp only at h
    cases hx : nextP p sg.at_ with
    | none => rw [hx] at h; simp at h
    | some y =>
      rw [hx] at h
      simp only at h
      obtain ⟨t, ht, -⟩ := onF_road s sg.at_.elem 13 [] [] y r rfl (by simpa using h)
      have hst : r.steps = t := by rw [ht.steps]; rfl
      have hlen : 1 ≤ r.steps.length := by
        rw [hst]
        exact List.length_pos_iff.2 ht.ne
      have hl2 := ht.len
      have hnl := stepsF_len ht.all
      rw [← hst] at hnl
      simp only [List.length_nil] at hnl
      refine ⟨?_, ht.frm, ht.guards, ht.zone, ht.holds, ht.bare, ht.len, hlen, by omega⟩
      unfold isF
      rw [ht.frm, hi]
      simp only
      rw [if_neg (by omega), hx, hst, ht.all]
      obtain ⟨l, hl⟩ : ∃ l, t.getLast? = some l := by
        rw [List.getLast?_eq_getElem?]
        rw [hst] at hlen
        exact ⟨_, List.getElem?_eq_getElem (by omega)⟩
      simp only [hl, ht.tail l hl, decide_true, Bool.and_true]

/-! ### none is told twice -/
end
end Go.E
/- Plain Lean: RoadOfs, RoadAlls, RoadIsOne, RoadTurned and RoadEach answer true, for every argument. No condition. -/
namespace Go.E
open Go

theorem mod_ok {a n : Int} (ha : 0 ≤ a) (hn : 0 < n) : ∃ r, modI a n = some r ∧ 0 ≤ r ∧ r < n := by
  unfold modI
  rw [if_neg (by omega)]
  exact ⟨_, rfl, Int.tmod_nonneg _ ha, by rw [Int.tmod_eq_emod_of_nonneg ha]; exact Int.emod_lt_of_pos _ hn⟩

theorem u8w {n : Int} (h : (Lit.int .u8 n).wf = true) : 0 ≤ n ∧ n ≤ 255 ∧ wi64 n = n := by
  have : 0 ≤ n ∧ n ≤ 255 := by simpa [Lit.wf, IntKind.min, IntKind.max, IntKind.signed, IntKind.bits] using h
  exact ⟨this.1, this.2, by rw [wi64_id] <;> omega⟩

section
variable {p : Plan} {n : Net}

theorem ofF_len (s : Int) : (ofF p s).length ≤ 2 ^ 13 := by
  unfold ofF
  split
  · simp
  · split
    · simp
    · exact onF_len p s 13 _ _ _ _

/-- All roads up to a signal. -/
def preF (p : Plan) (i : Nat) : List Road := (List.range i).flatMap fun (s : Nat) => ofF p (s : Int)

def roadsF (p : Plan) : List Road := preF p p.signals.length

theorem preF_succ (i : Nat) : preF p (i + 1) = preF p i ++ ofF p (i : Int) := by
  unfold preF
  rw [List.range_succ, List.flatMap_append]; simp

theorem preF_mem {i : Nat} {r : Road} (h : r ∈ preF p i) : ∃ s : Int, r ∈ ofF p s := by
  obtain ⟨s, _, hs⟩ := List.mem_flatMap.1 h
  exact ⟨_, hs⟩

theorem preF_mono {i : Nat} : ∀ {j : Nat}, i ≤ j → (preF p i).length ≤ (preF p j).length
  | 0, h => by have : i = 0 := by omega
               subst this; exact Nat.le_refl _
  | j + 1, h => by
    by_cases e : i = j + 1
    · subst e; exact Nat.le_refl _
    · have := preF_mono (i := i) (j := j) (by omega)
      rw [preF_succ, List.length_append]; omega

def allR (p : Plan) : List Road × Int := if 64 < (roadsF p).length then ([], 3) else (roadsF p, 0)

theorem R12_All_eq (hv : Valid p) : g_R12_All p = some (allR p) := by
  have hs := hv.ns
  unfold g_R12_All
  obtain ⟨b, h1, h2⟩ := loop_st (l := p.signals) (step := g_R12_All_l1 p) (Post := fun b => b = allR p) (fun i o => o = preF p i ∧ o.length ≤ 64) (c := [])
    (fun o ho => by
      refine ⟨allR p, ?_, rfl⟩
      unfold allR roadsF
      rw [← ho.1, if_neg (by omega)]
      simp [g_R12_All_l1])
    (fun i a o ha ho => by
      have hi := ilt ha
      have h2 := ofF_len (p := p) (i : Int)
      have hb : o.length + (ofF p (i : Int)).length ≤ 4294967296 := by have := ho.2; omega
      have hlen : (o ++ ofF p (i : Int)) = preF p (i + 1) := by rw [preF_succ, ho.1]
      by_cases c : 64 < (o ++ ofF p (i : Int)).length
      · refine .inl ⟨([], 3), ?_, ?_⟩
        · have d : decide (64 < ((o ++ ofF p (i : Int)).length : Int)) = true := by simp only [decide_eq_true_eq]; omega
          simp only [g_R12_All_l1, dlt ha, cond_true, Of_eq hv.few, Option.bind_some, appI_ok hb, d]
        · unfold allR roadsF
          have := preF_mono (p := p) (show i + 1 ≤ p.signals.length by omega)
          rw [hlen] at c
          rw [if_pos (by omega)]
      · refine .inr ⟨o ++ ofF p (i : Int), ?_, hlen, by omega⟩
        have d : decide (64 < ((o ++ ofF p (i : Int)).length : Int)) = false := by simp only [decide_eq_false_iff_not]; omega
        simp only [g_R12_All_l1, dlt ha, cond_true, Of_eq hv.few, Option.bind_some, appI_ok hb, d, cond_false, wi64_succ (show i < 1000000000 by omega)])
    ⟨by simp [preF], by simp⟩
  rw [h1, h2]

theorem allR_mem {r : Road} (h : r ∈ (allR p).1) : ∃ s : Int, r ∈ ofF p s := by
  unfold allR at h
  split at h
  · simp at h
  · exact preF_mem h

end

theorem Turned_total {r : Road} (h1 : 1 ≤ r.steps.length) (h2 : r.steps.length ≤ 12) (h3 : r.needs.length ≤ 12) {w k v : Int} (hk : 0 ≤ k ∧ k ≤ 255 ∧ wi64 k = k) : ∃ q, g_L7_Turned r w k v = some q ∧ q.needs.length ≤ 13 := by
  unfold g_L7_Turned
  rw [appI_ok (by simp; omega)]
  simp only [Option.bind_some, List.nil_append]
  rw [appI_ok (by simp; omega)]
  simp only [Option.bind_some, List.nil_append, hk.2.2]
  obtain ⟨i, i1, i2, i3⟩ := mod_ok (a := k) (n := (r.steps.length : Int)) hk.1 (by omega)
  obtain ⟨s, hs⟩ := idx_of (l := r.steps) (n := i) i2 i3
  have hm : modI w 10 = some (w.tmod 10) := rfl
  have hsl : slO r.steps 0 i = some (r.steps.take i.toNat) := by
    rw [slO_nil (by intro h; rw [h] at h1; simp at h1)]
    unfold slI
    rw [if_pos ⟨by omega, by omega, by omega⟩]; simp
  have ha1 : appI r.steps [s] = some (r.steps ++ [s]) := appI_ok (by simp; omega)
  have ha2 : appI r.needs [(⟨v, 1⟩ : Need)] = some (r.needs ++ [⟨v, 1⟩]) := appI_ok (by simp; omega)
  simp only [i1, Option.bind_some, hm, cbeq]
  by_cases m0 : w.tmod 10 = 0
  · exact ⟨_, by simp only [if_pos m0, Option.bind_some]; rfl, by simp; omega⟩
  by_cases m1 : w.tmod 10 = 1
  · exact ⟨_, by simp only [if_neg m0, if_pos m1, Option.bind_some]; rfl, by simp; omega⟩
  by_cases m2 : w.tmod 10 = 2
  · exact ⟨_, by simp only [if_neg m0, if_neg m1, if_pos m2, Option.bind_some]; rfl, by simp; omega⟩
  by_cases m3 : w.tmod 10 = 3
  · exact ⟨_, by simp only [if_neg m0, if_neg m1, if_neg m2, if_pos m3, hs, Option.bind_some]; rfl, by simp; omega⟩
  by_cases m4 : w.tmod 10 = 4
  · exact ⟨_, by simp only [if_neg m0, if_neg m1, if_neg m2, if_neg m3, if_pos m4, hs, Option.bind_some]; rfl, by simp; omega⟩
  by_cases m5 : w.tmod 10 = 5
  · exact ⟨_, by simp only [if_neg m0, if_neg m1, if_neg m2, if_neg m3, if_neg m4, if_pos m5, hs, Option.bind_some]; rfl, by simp; omega⟩
  by_cases m6 : w.tmod 10 = 6
  · exact ⟨_, by simp only [if_neg m0, if_neg m1, if_neg m2, if_neg m3, if_neg m4, if_neg m5, if_pos m6, hsl, Option.bind_some]; rfl, by simp; omega⟩
  by_cases m7 : w.tmod 10 = 7
  · exact ⟨_, by simp only [if_neg m0, if_neg m1, if_neg m2, if_neg m3, if_neg m4, if_neg m5, if_neg m6, if_pos m7, hs, ha1, Option.bind_some]; rfl, by simp; omega⟩
  by_cases m8 : w.tmod 10 = 8
  · exact ⟨_, by simp only [if_neg m0, if_neg m1, if_neg m2, if_neg m3, if_neg m4, if_neg m5, if_neg m6, if_neg m7, if_pos m8, ha2, Option.bind_some]; rfl, by simpa using h3⟩
  by_cases e : r.needs.length = 0
  · have d : decide ((0 : Int) < (r.needs.length : Int)) = false := decide_eq_false (by omega)
    exact ⟨_, by simp only [if_neg m0, if_neg m1, if_neg m2, if_neg m3, if_neg m4, if_neg m5, if_neg m6, if_neg m7, if_neg m8, d, cond_false, Option.bind_some]; rfl, by simp; omega⟩
  · have d : decide ((0 : Int) < (r.needs.length : Int)) = true := decide_eq_true (by omega)
    obtain ⟨j, j1, j2, j3⟩ := mod_ok (a := k) (n := (r.needs.length : Int)) hk.1 (by omega)
    obtain ⟨q, hq⟩ := idx_of (l := r.needs) (n := j) j2 j3
    exact ⟨_, by simp only [if_neg m0, if_neg m1, if_neg m2, if_neg m3, if_neg m4, if_neg m5, if_neg m6, if_neg m7, if_neg m8, d, cond_true, j1, hq, Option.bind_some]; rfl, by simp [setI_len]; omega⟩

theorem RoadTurned_true (p : Plan) (i w k v : Int) (ki : (Lit.int .u8 i).wf = true) (kk : (Lit.int .u8 k).wf = true) : g_L7_RoadTurned p i w k v = some true := by
  unfold g_L7_RoadTurned
  simp only [known7, Option.bind_some, Bool.not_true, cond_false]
  obtain ⟨b, h1, h2⟩ := fine_total p
  simp only [h1, Option.bind_some]
  cases b with
  | false => rfl
  | true =>
    have hv := h2 rfl
    obtain ⟨o, h3, h4⟩ := made_total p
    obtain ⟨n, rfl, hn⟩ := h4 h1
    simp only [Bool.not_true, cond_false, h3, Option.bind_some, optM, R12_All_eq hv, cbne]
    by_cases e : (allR p).2 = 0
    · simp only [if_pos e, Option.bind_some]
      by_cases l0 : (allR p).1.length = 0
      · have : (((allR p).1.length : Int) == 0) = true := by rw [beq_iff_eq]; omega
        simp only [this, cond_true]
      · have d : (((allR p).1.length : Int) == 0) = false := by rw [beq_eq_false_iff_ne]; omega
        obtain ⟨u1, u2, u3⟩ := u8w ki
        obtain ⟨j, j1, j2, j3⟩ := mod_ok (a := i) (n := ((allR p).1.length : Int)) u1 (by omega)
        obtain ⟨r, hr⟩ := idx_of (l := (allR p).1) (n := j) j2 j3
        obtain ⟨hm, _⟩ := idx_at hr
        obtain ⟨s, hs⟩ := allR_mem (List.mem_of_getElem? hm)
        obtain ⟨r1, _, _, _, _, _, r2, r3, r4⟩ := ofF_road hs
        obtain ⟨q, q1, q2⟩ := Turned_total (w := w) (v := v) r3 r2 r4 (u8w kk)
        simp only [d, cond_false, u3, j1, hr, Option.bind_some, q1, road_Is_eq hn r (show r.needs.length ≤ 1000 by omega), r1, cond_true, road_Is_eq hn q (show q.needs.length ≤ 1000 by omega), R12_Is_eq hv q (show q.needs.length ≤ 1000 by omega), beq_self_eq_true]
    · simp only [if_neg e, Option.bind_some, cond_true]

end Go.E
