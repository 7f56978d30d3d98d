/- Plain Lean: the numbers, names and joins of a plan that the document's check takes. No condition. -/
import Derived.KernelRfl
import Derived.Test.YtilbadmonidmhaaGreatJ4
set_option linter.unusedVariables false
set_option linter.unusedSimpArgs false
namespace Go.E
open Go
theorem g_R6_within_eq (x lo hi : Int) : g_R6_within x lo hi = some (decide (lo ≤ x) && decide (x ≤ hi)) := by
 unfold g_R6_within
 cases decide (lo ≤ x) <;> rfl
structure ElemOK (e : Elem) : Prop where
 name : NameOK e.name
 ends : endsF e.kind ≠ 0
 gate : e.kind = 4 → e.length = 0
 len : e.kind ≠ 4 → 1 ≤ e.length ∧ e.length ≤ 4000
structure ArgsP (p : Plan) : Prop where
 top : 1 ≤ p.top ∧ p.top ≤ 60
 brake : 1 ≤ p.brake ∧ p.brake ≤ 10
 margin : 1 ≤ p.margin ∧ p.margin ≤ 4000
 throw : 1 ≤ p.throw ∧ p.throw ≤ 20
 one : 1 ≤ p.elems.length
 elem : ∀ (i : Nat) e, p.elems[i]? = some e → ElemOK e
 signal : ∀ (i : Nat) s, p.signals[i]? = some s → NameOK s.name
 line : ∀ (i : Nat) l, p.lines[i]? = some l → NameOK l.name
theorem args_total (p : Plan) (hf : FewP p) : ∃ b, g_R6_args p = some b ∧ (b = true → ArgsP p) := by
 unfold g_R6_args
 simp only [g_R6_within_eq, Option.bind_some]
 have fin : (1 ≤ p.top ∧ p.top ≤ 60) → (1 ≤ p.brake ∧ p.brake ≤ 10) → (1 ≤ p.margin ∧ p.margin ≤ 4000) → (1 ≤ p.throw ∧ p.throw ≤ 20) → 1 ≤ p.elems.length → ∃ b, loopR (g_R6_args_l1 p) 0 = some b ∧ (b = true → ArgsP p) := by
  intro a1 a2 a3 a4 a5
  refine loop_ix (l := p.elems) (fun _ e => ElemOK e) (fun g1 => ?_) (fun i e he _ => ?_)
  ·simp only [g_R6_args_l1, dge, cond_false]
   obtain ⟨b, hb, hp⟩ : ∃ b, loopR (g_R6_args_l2 p) 0 = some b ∧ (b = true → ArgsP p) := by
    refine loop_ix (l := p.signals) (fun _ s => NameOK s.name) (fun g2 => ?_) (fun i s hs _ => ?_)
    ·simp only [g_R6_args_l2, dge, cond_false]
     obtain ⟨b, hb, hp⟩ : ∃ b, loopR (g_R6_args_l3 p) 0 = some b ∧ (b = true → ArgsP p) := by
      refine loop_ix (l := p.lines) (fun _ s => NameOK s.name) (fun g3 => ?_) (fun i s hs _ => ?_)
      ·simp only [g_R6_args_l3, dge, cond_false]
       exact ⟨true, rfl, fun _ => ⟨a1, a2, a3, a4, a5, g1, g2, g3⟩⟩
      ·have := ilt hs; have := hf.lines
       obtain ⟨b, hb, hn⟩ := g_R6_Name_total s.name (by have := (hf.line i s hs).2; omega)
       simp only [g_R6_args_l3, dlt hs, cond_true, idx_nat, hs, Option.bind_some, hb, wi64_succ (show i < 1000000000 by omega)]
       cases b with
       | false => exact .inl ⟨false, rfl, by simp⟩
       | true => exact .inr ⟨rfl, hn rfl⟩
     exact ⟨b, by rw [hb]; rfl, hp⟩
    ·have := ilt hs; have := hf.signals
     obtain ⟨b, hb, hn⟩ := g_R6_Name_total s.name (by have := (hf.signal i s hs); omega)
     simp only [g_R6_args_l2, dlt hs, cond_true, idx_nat, hs, Option.bind_some, hb, wi64_succ (show i < 1000000000 by omega)]
     cases b with
     | false => exact .inl ⟨false, rfl, by simp⟩
     | true => exact .inr ⟨rfl, hn rfl⟩
   exact ⟨b, by rw [hb]; rfl, hp⟩
  ·have := ilt he; have := hf.elems
   obtain ⟨b, hb, hn⟩ := g_R6_Name_total e.name (by have := (hf.elem i e he); omega)
   simp only [g_R6_args_l1, dlt he, cond_true, idx_nat, he, Option.bind_some, hb, wi64_succ (show i < 1000000000 by omega), g_R6_Ends_eq, g_R6_within_eq, cbeq, cbne]
   cases b with
   | false => exact .inl ⟨false, rfl, by simp⟩
   | true =>
    by_cases h1 : endsF e.kind = 0
    ·exact .inl ⟨false, by simp [h1], by simp⟩
    ·by_cases h2 : e.kind = 4
     ·by_cases h3 : e.length = 0
      ·exact .inr ⟨by simp only [h1, if_false]; simp [h2, h3], ⟨hn rfl, h1, fun _ => h3, fun h => absurd h2 h⟩⟩
      ·exact .inl ⟨false, by simp only [h1, if_false]; simp [h2, h3], by simp⟩
     ·by_cases h3 : 1 ≤ e.length
      ·by_cases h4 : e.length ≤ 4000
       ·exact .inr ⟨by simp [h1, h2, h3, h4], ⟨hn rfl, h1, fun h => absurd h h2, fun _ => ⟨h3, h4⟩⟩⟩
       ·exact .inl ⟨false, by simp [h1, h2, h3, h4], by simp⟩
      ·exact .inl ⟨false, by simp [h1, h2, h3], by simp⟩
 by_cases a1 : 1 ≤ p.top ∧ p.top ≤ 60
 ·by_cases a2 : 1 ≤ p.brake ∧ p.brake ≤ 10
  ·by_cases a3 : 1 ≤ p.margin ∧ p.margin ≤ 4000
   ·by_cases a4 : 1 ≤ p.throw ∧ p.throw ≤ 20
    ·by_cases a5 : 1 ≤ p.elems.length
     ·have : ((p.elems.length : Int) == 0) = false := by rw [beq_eq_false_iff_ne]; omega
      simp only [a1, a2, a3, a4, this, decide_true, Bool.and_self, Bool.not_true, cond_false, Option.bind_some]
      exact fin a1 a2 a3 a4 a5
     ·have : ((p.elems.length : Int) == 0) = true := by rw [beq_iff_eq]; omega
      exact ⟨false, by simp [a1, a2, a3, a4, this], by simp⟩
    ·have : (decide (1 ≤ p.throw) && decide (p.throw ≤ 20)) = false := by simpa using a4
     exact ⟨false, by simp only [a1, a2, a3, this, decide_true, Bool.and_self, Bool.not_true, Bool.not_false, cond_false, cond_true, Option.bind_some], by simp⟩
   ·have : (decide (1 ≤ p.margin) && decide (p.margin ≤ 4000)) = false := by simpa using a3
    exact ⟨false, by simp only [a1, a2, this, decide_true, Bool.and_self, Bool.not_true, Bool.not_false, cond_false, cond_true, Option.bind_some], by simp⟩
  ·have : (decide (1 ≤ p.brake) && decide (p.brake ≤ 10)) = false := by simpa using a2
   exact ⟨false, by simp only [a1, this, decide_true, Bool.and_self, Bool.not_true, Bool.not_false, cond_false, cond_true, Option.bind_some], by simp⟩
 ·have : (decide (1 ≤ p.top) && decide (p.top ≤ 60)) = false := by simpa using a1
  exact ⟨false, by simp only [this, Bool.not_false, cond_true, Option.bind_some], by simp⟩
theorem appI_ok {α : Type} {l m : List α} (h : l.length + m.length ≤ 4294967296) : appI l m = some (l ++ m) := by simp [appI, h]
theorem names_eq (p : Plan) (hf : FewP p) : g_R6_names p = some (p.elems.map (·.name), p.signals.map (·.name), p.lines.map (·.name)) := by
 have h1 := hf.elems; have h2 := hf.signals; have h3 := hf.lines
 unfold g_R6_names
 have e3 : ∀ (s54 s160 : Int × List ByteArray), loopR (g_R6_names_l3 p s54 s160) (0, ([] : List ByteArray)) = some (s54.2, s160.2, p.lines.map (·.name)) := by
  intro s54 s160
  obtain ⟨b, hb, rfl⟩ := loop_st (l := p.lines) (step := g_R6_names_l3 p s54 s160) (Post := fun b => b = (s54.2, s160.2, p.lines.map (·.name))) (fun k c => c = (p.lines.take k).map (·.name))
   (fun c hc => by subst hc; exact ⟨(s54.2, s160.2, (p.lines.take p.lines.length).map (·.name)), by simp only [g_R6_names_l3, dge, cond_false], by rw [List.take_length]⟩)
   (fun i a c ha hc => by
    subst hc; have := ilt ha
    exact .inr ⟨_, by simp only [g_R6_names_l3, dlt ha, cond_true, idx_nat, ha, Option.bind_some, appI_ok (l := (p.lines.take i).map (·.name)) (m := [a.name]) (by simp; omega), wi64_succ (show i < 1000000000 by omega)], (take_map_succ ha).symm⟩) (c := []) rfl
  exact hb
 have e2 : ∀ (s54 : Int × List ByteArray), loopR (g_R6_names_l2 p s54) (0, ([] : List ByteArray)) = some (s54.2, p.signals.map (·.name), p.lines.map (·.name)) := by
  intro s54
  obtain ⟨b, hb, rfl⟩ := loop_st (l := p.signals) (step := g_R6_names_l2 p s54) (Post := fun b => b = (s54.2, p.signals.map (·.name), p.lines.map (·.name))) (fun k c => c = (p.signals.take k).map (·.name))
   (fun c hc => by subst hc; exact ⟨(s54.2, (p.signals.take p.signals.length).map (·.name), p.lines.map (·.name)), by simp only [g_R6_names_l2, dge, cond_false, e3]; rfl, by rw [List.take_length]⟩)
   (fun i a c ha hc => by
    subst hc; have := ilt ha
    exact .inr ⟨_, by simp only [g_R6_names_l2, dlt ha, cond_true, idx_nat, ha, Option.bind_some, appI_ok (l := (p.signals.take i).map (·.name)) (m := [a.name]) (by simp; omega), wi64_succ (show i < 1000000000 by omega)], (take_map_succ ha).symm⟩) (c := []) rfl
  exact hb
 obtain ⟨b, hb, rfl⟩ := loop_st (l := p.elems) (step := g_R6_names_l1 p) (Post := fun b => b = (p.elems.map (·.name), p.signals.map (·.name), p.lines.map (·.name))) (fun k c => c = (p.elems.take k).map (·.name))
  (fun c hc => by subst hc; exact ⟨((p.elems.take p.elems.length).map (·.name), p.signals.map (·.name), p.lines.map (·.name)), by simp only [g_R6_names_l1, dge, cond_false, e2]; rfl, by rw [List.take_length]⟩)
  (fun i a c ha hc => by
   subst hc; have := ilt ha
   exact .inr ⟨_, by simp only [g_R6_names_l1, dlt ha, cond_true, idx_nat, ha, Option.bind_some, appI_ok (l := (p.elems.take i).map (·.name)) (m := [a.name]) (by simp; omega), wi64_succ (show i < 1000000000 by omega)], (take_map_succ ha).symm⟩) (c := []) rfl
 exact hb
def Apart (l : List ByteArray) : Prop := ∀ (i k : Nat) a b, k < i → l[i]? = some a → l[k]? = some b → a.toList ≠ b.toList
theorem twice_total (l : List ByteArray) (hl : l.length ≤ 1000) : ∃ b, g_R6_twice l = some b ∧ (b = false → Apart l) := by
 unfold g_R6_twice
 refine loop_ix (l := l) (fun i a => ∀ k b, k < i → l[k]? = some b → a.toList ≠ b.toList) (fun g => ?_) (fun i a ha _ => ?_)
 ·exact ⟨false, by simp only [g_R6_twice_l1, dge, cond_false], fun _ i k a b hk h1 h2 => g i a h1 k b hk h2⟩
 ·have hi := ilt ha
  simp only [g_R6_twice_l1, dlt ha, cond_true]
  have key : ∃ r, loopR (g_R6_twice_l2 l (i : Int)) 0 = some r ∧ (r = .inr true ∨ (r = .inl (((i + 1 : Nat) : Int)) ∧ ∀ k b, k < i → l[k]? = some b → a.toList ≠ b.toList)) := by
   refine loop_up (fun k s => s = (k : Int) ∧ k ≤ i ∧ ∀ j b, j < k → l[j]? = some b → a.toList ≠ b.toList) i ?_ ⟨rfl, Nat.zero_le _, fun j b hj => by omega⟩
   rintro k s ⟨rfl, hk, hg⟩
   by_cases he : k = i
   ·subst he
    exact .inl ⟨_, by simp only [g_R6_twice_l2, Int.lt_irrefl, decide_false, cond_false, wi64_succ (show k < 1000000000 by omega)], .inr ⟨rfl, hg⟩⟩
   ·have hk' : k < i := by omega
    have hb : l[k]? = some (l[k]'(by omega)) := List.getElem?_eq_getElem _
    have hd : decide ((k : Int) < (i : Int)) = true := by simpa using hk'
    simp only [g_R6_twice_l2, hd, cond_true, idx_nat, ha, hb, Option.bind_some]
    cases h : a.toList == (l[k]'(by omega)).toList with
    | true => exact .inl ⟨.inr true, rfl, .inl rfl⟩
    | false =>
     refine .inr ⟨hk', ((k + 1 : Nat) : Int), by rw [wi64_succ (show k < 1000000000 by omega)]; rfl, rfl, by omega, fun j b hj hjb => ?_⟩
     by_cases e : j = k
     ·subst e; rw [hb] at hjb; cases hjb; exact beq_eq_false_iff_ne.1 h
     ·exact hg j b (by omega) hjb
  obtain ⟨r, hr, h⟩ := key
  rcases h with rfl | ⟨rfl, h⟩
  ·exact .inl ⟨true, hr, by simp⟩
  ·exact .inr ⟨hr, h⟩
end Go.E
/- Plain Lean: the joins and signals of a plan that the document's check takes. No condition. -/
namespace Go.E
open Go
theorem take_flat_succ {α β : Type} {f : α → List β} {l : List α} {i : Nat} {a : α} (h : l[i]? = some a) : (l.take (i + 1)).flatMap f = (l.take i).flatMap f ++ f a := by
 rw [List.take_add_one, h]; simp
def portsP (p : Plan) : List Port := p.joins.flatMap fun j => [j.a, j.b]
structure JoinP (p : Plan) : Prop where
 has : ∀ (i : Nat) x, (portsP p)[i]? = some x → hasP p x = true
 dist : ∀ (i k : Nat) x y, k < i → (portsP p)[i]? = some x → (portsP p)[k]? = some y → y ≠ x
 gate : ∀ (i : Nat) e, p.elems[i]? = some e → e.kind = 4 → ∃ y, nextP p ⟨(i : Int), 0⟩ = some y ∧ kindP p y.elem ≠ 4
theorem flat_len2 (l : List Join) : (l.flatMap fun j => [j.a, j.b]).length = 2 * l.length := by
 induction l with
 | nil => rfl
 | cons a l ih => simp only [List.flatMap_cons, List.length_append, ih, List.length_cons, List.length_nil]; omega
theorem joined_total (p : Plan) (hf : FewP p) : ∃ b, g_R6_joined p = some b ∧ (b = true → JoinP p) := by
 have q1 := hf.elems; have q2 := hf.joins
 unfold g_R6_joined
 have gates : ∃ b, loopR (g_R6_joined_l4 p) 0 = some b ∧ (b = true → ∀ (i : Nat) e, p.elems[i]? = some e → e.kind = 4 → ∃ y, nextP p ⟨(i : Int), 0⟩ = some y ∧ kindP p y.elem ≠ 4) := by
  refine loop_ix (l := p.elems) (fun i e => e.kind = 4 → ∃ y, nextP p ⟨(i : Int), 0⟩ = some y ∧ kindP p y.elem ≠ 4) (fun g => ?_) (fun i e he _ => ?_)
  ·exact ⟨true, by simp only [g_R6_joined_l4, dge, cond_false], fun _ => g⟩
  ·have := ilt he
   simp only [g_R6_joined_l4, dlt he, cond_true, idx_nat, he, Option.bind_some, cbeq, g_R6_Next_eq p (by omega), g_R6_kind_eq, wi64_succ (show i < 1000000000 by omega)]
   by_cases hk : e.kind = 4
   ·cases hn : nextP p ⟨(i : Int), 0⟩ with
    | none => exact .inl ⟨false, by simp [hk, seqR], by simp⟩
    | some y =>
     by_cases hy : kindP p y.elem = 4
     ·exact .inl ⟨false, by simp [hk, hy, seqR], by simp⟩
     ·have : (kindP p y.elem == 4) = false := beq_eq_false_iff_ne.2 hy
      exact .inr ⟨by simp [hk, this, seqR], fun _ => ⟨y, rfl, hy⟩⟩
   ·exact .inr ⟨by simp [hk, seqR], fun h => absurd h hk⟩
 obtain ⟨bg, hbg, hgg⟩ := gates
 have dist : ∀ s70 : Int × List Port, s70.2 = portsP p → ∃ b, loopR (g_R6_joined_l2 p s70) 0 = some b ∧ (b = true → JoinP p) := by
  rintro ⟨s0, l⟩ hl
  simp only at hl
  have hlen : l.length ≤ 240 := by rw [hl, portsP, flat_len2]; omega
  refine loop_ix (l := l) (fun i x => hasP p x = true ∧ ∀ k y, k < i → l[k]? = some y → y ≠ x) (fun g => ?_) (fun i x hx _ => ?_)
  ·refine ⟨bg, by simp only [g_R6_joined_l2, dge, cond_false, hbg]; rfl, fun h => ⟨?_, ?_, hgg h⟩⟩
   ·rw [← hl]; exact fun i x hx => (g i x hx).1
   ·rw [← hl]; exact fun i k x y hk hx hy => (g i x hx).2 k y hk hy
  ·have hi := ilt hx
   simp only [g_R6_joined_l2, dlt hx, cond_true, idx_nat, hx, Option.bind_some, g_R6_has_eq]
   cases hh : hasP p x with
   | false => exact .inl ⟨false, rfl, by simp⟩
   | true =>
    have key : ∃ r, loopR (g_R6_joined_l3 (s0, l) (i : Int)) 0 = some r ∧ (r = .inr false ∨ (r = .inl (((i + 1 : Nat) : Int)) ∧ ∀ k y, k < i → l[k]? = some y → y ≠ x)) := by
     refine loop_up (fun k s => s = (k : Int) ∧ k ≤ i ∧ ∀ j y, j < k → l[j]? = some y → y ≠ x) i ?_ ⟨rfl, Nat.zero_le _, fun j b hj => by omega⟩
     rintro k s ⟨rfl, hk, hg⟩
     by_cases he : k = i
     ·subst he
      exact .inl ⟨_, by simp only [g_R6_joined_l3, Int.lt_irrefl, decide_false, cond_false, wi64_succ (show k < 1000000000 by omega)], .inr ⟨rfl, hg⟩⟩
     ·have hk' : k < i := by omega
      have hb : l[k]? = some (l[k]'(by omega)) := List.getElem?_eq_getElem _
      have hd : decide ((k : Int) < (i : Int)) = true := by simpa using hk'
      simp only [g_R6_joined_l3, hd, cond_true, idx_nat, hx, hb, Option.bind_some, cbeq]
      by_cases h : (l[k]'(by omega)) = x
      ·exact .inl ⟨.inr false, by rw [if_pos h], .inl rfl⟩
      ·refine .inr ⟨hk', ((k + 1 : Nat) : Int), by rw [if_neg h, wi64_succ (show k < 1000000000 by omega)], rfl, by omega, fun j b hj hjb => ?_⟩
       by_cases e : j = k
       ·subst e; rw [hb] at hjb; cases hjb; exact h
       ·exact hg j b (by omega) hjb
    obtain ⟨r, hr, h⟩ := key
    rcases h with rfl | ⟨rfl, h⟩
    ·exact .inl ⟨false, hr, by simp⟩
    ·exact .inr ⟨hr, rfl, h⟩
 refine loop_st (l := p.joins) (fun k c => c = (p.joins.take k).flatMap fun j => [j.a, j.b]) (fun c hc => ?_) (fun i a c ha hc => ?_) (c := []) rfl
 ·rw [List.take_length] at hc
  obtain ⟨b, hb, h⟩ := dist ((p.joins.length : Int), c) hc
  exact ⟨b, by simp only [g_R6_joined_l1, dge, cond_false, hb]; rfl, h⟩
 ·subst hc; have := ilt ha
  refine .inr ⟨_, ?_, (take_flat_succ ha).symm⟩
  simp only [g_R6_joined_l1, dlt ha, cond_true, idx_nat, ha, Option.bind_some, wi64_succ (show i < 1000000000 by omega)]
  rw [appI_ok (by rw [flat_len2, List.length_take]; simp; omega)]; rfl
def readsF (x : Port) : Nat → List Signal → Int
 | _, [] => -1
 | i, s :: r => if s.at_ = x then i else readsF x (i + 1) r
def readsP (p : Plan) (x : Port) : Int := readsF x 0 p.signals
theorem readsF_spec (x : Port) : ∀ (l : List Signal) (i : Nat), (readsF x i l = -1 ∧ ∀ (k : Nat) s, l[k]? = some s → s.at_ ≠ x) ∨
  ∃ (k : Nat) (s : Signal), l[k]? = some s ∧ s.at_ = x ∧ readsF x i l = ((i + k : Nat) : Int) ∧ ∀ (j : Nat) t, j < k → l[j]? = some t → t.at_ ≠ x
 | [], i => .inl ⟨rfl, by simp⟩
 | s :: r, i => by
  by_cases h : s.at_ = x
  ·exact .inr ⟨0, s, rfl, h, by simp [readsF, h], fun j t hj => by omega⟩
  ·rcases readsF_spec x r (i + 1) with ⟨h1, h2⟩ | ⟨k, t, h1, h2, h3, h4⟩
   ·refine .inl ⟨by simp [readsF, h, h1], fun k t hk => ?_⟩
    cases k with
    | zero => cases hk; exact h
    | succ k => exact h2 k t (by simpa using hk)
   ·refine .inr ⟨k + 1, t, by simpa using h1, h2, by simp only [readsF, if_neg h, h3]; congr 1; omega, fun j u hj hu => ?_⟩
    cases j with
    | zero => cases hu; exact h
    | succ j => exact h4 j u (by omega) (by simpa using hu)
theorem g_R6_Reads_eq (p : Plan) (hp : p.signals.length < 1000000) (x : Port) : g_R6_Reads p x = some (readsP p x) := by
 unfold g_R6_Reads readsP
 refine loop_list (γ := Unit) p.signals (fun i _ => (i : Int)) (fun i _ r => some (readsF x i r)) (fun _ => ?_) (fun i _ a r ha hi => ?_) ()
 ·simp [g_R6_Reads_l1, readsF]
 ·simp only [g_R6_Reads_l1, idx_nat, ha, Option.bind_some, dlt ha, cond_true, readsF, cbeq]
  by_cases h1 : a.at_ = x
  ·left; simp [h1]
  ·right
   exact ⟨(), by simp [h1, wi64_succ (show i < 1000000000 by omega)]⟩
structure SigP (p : Plan) : Prop where
 has : ∀ (i : Nat) s, p.signals[i]? = some s → hasP p s.at_ = true
 kind : ∀ (i : Nat) s, p.signals[i]? = some s → kindP p s.at_.elem = 1 ∨ kindP p s.at_.elem = 4
 next : ∀ (i : Nat) s, p.signals[i]? = some s → ∃ y, nextP p s.at_ = some y ∧ kindP p y.elem ≠ 4
 reads : ∀ (i : Nat) s, p.signals[i]? = some s → readsP p s.at_ = i
 gate : ∀ (i : Nat) e, p.elems[i]? = some e → e.kind = 4 → 0 ≤ readsP p ⟨(i : Int), 0⟩
theorem signals_total (p : Plan) (hf : FewP p) : ∃ b, g_R6_signals p = some b ∧ (b = true → SigP p) := by
 have q1 := hf.elems; have q2 := hf.joins; have q3 := hf.signals
 unfold g_R6_signals
 have gates : ∃ b, loopR (g_R6_signals_l2 p) 0 = some b ∧ (b = true → ∀ (i : Nat) e, p.elems[i]? = some e → e.kind = 4 → 0 ≤ readsP p ⟨(i : Int), 0⟩) := by
  refine loop_ix (l := p.elems) (fun i e => e.kind = 4 → 0 ≤ readsP p ⟨(i : Int), 0⟩) (fun g => ?_) (fun i e he _ => ?_)
  ·exact ⟨true, by simp only [g_R6_signals_l2, dge, cond_false], fun _ => g⟩
  ·have := ilt he
   simp only [g_R6_signals_l2, dlt he, cond_true, idx_nat, he, Option.bind_some, cbeq, g_R6_Reads_eq p (by omega), wi64_succ (show i < 1000000000 by omega)]
   by_cases hk : e.kind = 4
   ·by_cases hr : readsP p ⟨(i : Int), 0⟩ < 0
    ·exact .inl ⟨false, by simp [hk, hr], by simp⟩
    ·exact .inr ⟨by simp [hk, hr], fun _ => by omega⟩
   ·exact .inr ⟨by simp [hk], fun h => absurd h hk⟩
 obtain ⟨bg, hbg, hgg⟩ := gates
 refine loop_ix (l := p.signals) (fun i s => hasP p s.at_ = true ∧ (kindP p s.at_.elem = 1 ∨ kindP p s.at_.elem = 4) ∧ (∃ y, nextP p s.at_ = some y ∧ kindP p y.elem ≠ 4) ∧ readsP p s.at_ = i) (fun g => ?_) (fun i s hs _ => ?_)
 ·exact ⟨bg, by simp only [g_R6_signals_l1, dge, cond_false, hbg]; rfl, fun h => ⟨fun i s hs => (g i s hs).1, fun i s hs => (g i s hs).2.1, fun i s hs => (g i s hs).2.2.1, fun i s hs => (g i s hs).2.2.2, hgg h⟩⟩
 ·have := ilt hs
  simp only [g_R6_signals_l1, dlt hs, cond_true, idx_nat, hs, Option.bind_some, cbeq, cbne, g_R6_Reads_eq p (by omega), g_R6_Next_eq p (by omega), g_R6_kind_eq, g_R6_has_eq, wi64_succ (show i < 1000000000 by omega)]
  cases hh : hasP p s.at_ with
  | false => exact .inl ⟨false, by simp, by simp⟩
  | true =>
   by_cases hk : kindP p s.at_.elem = 1 ∨ kindP p s.at_.elem = 4
   ·have hk' : ((if kindP p s.at_.elem = 1 then some false else some (kindP p s.at_.elem != 4) : Option Bool)) = some false := by
     rcases hk with h | h <;> simp [h]
    simp only [Bool.not_true, cond_false, hk', Option.bind_some]
    cases hn : nextP p s.at_ with
    | none => exact .inl ⟨false, by simp, by simp⟩
    | some y =>
     by_cases hy : kindP p y.elem = 4
     ·exact .inl ⟨false, by simp [hy], by simp⟩
     ·by_cases hr : readsP p s.at_ = i
      ·exact .inr ⟨by simp [hy, hr], trivial, hk, ⟨y, rfl, hy⟩, hr⟩
      ·have : (readsP p s.at_ != (i : Int)) = true := bne_iff_ne.2 hr
       exact .inl ⟨false, by simp [hy, this], by simp⟩
   ·have h1 : ¬ kindP p s.at_.elem = 1 := fun h => hk (.inl h)
    have h2 : ¬ kindP p s.at_.elem = 4 := fun h => hk (.inr h)
    have h3 : (kindP p s.at_.elem != 4) = true := bne_iff_ne.2 h2
    exact .inl ⟨false, by simp [h1, h3], by simp⟩
end Go.E
/- Plain Lean: the lines and lengths of a plan that the document's check takes; the check as a whole. No condition. -/
namespace Go.E
open Go
theorem In_total (l : List Int) (n : Int) (hl : l.length < 1000000) : ∃ b, g_R6_In l n = some b ∧ (b = false → n ∉ l) := by
 unfold g_R6_In
 refine loop_ix (l := l) (fun _ a => a ≠ n) (fun g => ?_) (fun i a ha _ => ?_)
 ·refine ⟨false, by simp only [g_R6_In_l1, dge, cond_false], fun _ hn => ?_⟩
  obtain ⟨i, hi⟩ := List.mem_iff_getElem?.1 hn
  exact g i n hi rfl
 ·have := ilt ha
  simp only [g_R6_In_l1, dlt ha, cond_true, idx_nat, ha, Option.bind_some, cbeq, wi64_succ (show i < 1000000000 by omega)]
  by_cases h : a = n
  ·exact .inl ⟨true, by rw [if_pos h], by simp⟩
  ·exact .inr ⟨by rw [if_neg h], h⟩
theorem nextL_mem : ∀ {l : List Join} {x y : Port}, nextL l x = some y → y ∈ l.flatMap fun j => [j.a, j.b]
 | j :: r, x, y, h => by
  simp only [nextL] at h
  split at h
  ·cases h; simp
  ·split at h
   ·cases h; simp
   ·have := nextL_mem h; simp only [List.flatMap_cons, List.mem_append]; exact .inr this
theorem endsF_le (k : Int) : 0 ≤ endsF k ∧ endsF k ≤ 4 := by unfold endsF; repeat' split <;> omega
theorem hasP_fin {p : Plan} {x : Port} (h : hasP p x = true) : 0 ≤ x.fin ∧ x.fin < 4 ∧ x.fin < endsF (kindP p x.elem) := by
 simp only [hasP, Bool.and_eq_true, decide_eq_true_eq] at h
 have := endsF_le (kindP p x.elem)
 omega
theorem JoinP.next {p : Plan} (hj : JoinP p) {x y : Port} (h : nextP p x = some y) : hasP p y = true := by
 obtain ⟨i, hi⟩ := List.mem_iff_getElem?.1 (nextL_mem h)
 exact hj.has i y hi
def meetsP (p : Plan) (x : Port) (f : Int) : Prop := ∃ y, nextP p x = some y ∧ y.elem = f
instance (p : Plan) (x : Port) (f : Int) : Decidable (meetsP p x f) :=
 match h : nextP p x with
 | some y => if e : y.elem = f then isTrue ⟨y, h, e⟩ else isFalse fun ⟨z, hz, ez⟩ => by rw [h] at hz; cases hz; exact e ez
 | none => isFalse fun ⟨z, hz, _⟩ => by rw [h] at hz; cases hz
def startF (p : Plan) (a b : Int) : Int := if meetsP p ⟨a, 0⟩ b then 0 else if meetsP p ⟨a, 1⟩ b then 1 else -1
def chainP (p : Plan) : Int → Int → List Int → Prop
 | _, _, [] => True
 | out, e, f :: r => ∃ y, nextP p ⟨e, out⟩ = some y ∧ y.elem = f ∧ chainP p (1 - y.fin) f r
structure LineOK (p : Plan) (l : List Int) : Prop where
 one : 1 ≤ l.length
 track : ∀ (i : Nat) e, l[i]? = some e → kindP p e = 1
 chain : ∀ a b r, l = a :: b :: r → 0 ≤ startF p a b ∧ chainP p (startF p a b) a (b :: r)
theorem meets_opt (p : Plan) (x : Port) (f : Int) : ((bif (nextP p x).isSome then some (((nextP p x).getD ⟨0, 0⟩).elem == f) else some false : Option Bool)) = some (decide (meetsP p x f)) := by
 by_cases hm : meetsP p x f
 ·obtain ⟨y, h, e⟩ := id hm
  simp [hm, h, e]
 ·cases h : nextP p x with
  | none => simp [hm]
  | some y =>
   have : (y.elem == f) = false := beq_eq_false_iff_ne.2 fun e => hm ⟨y, h, e⟩
   simp [hm, this]
theorem enters_total (p : Plan) (hf : FewP p) (hj : JoinP p) (l : List Int) (hl : l.length ≤ 60) : ∃ b, g_R6_enters p l = some b ∧ (b.2 = true → LineOK p l) := by
 have q2 := hf.joins
 unfold g_R6_enters
 by_cases h0 : (l.length : Int) = 0
 ·exact ⟨([], false), by simp [cbeq, h0], by simp⟩
 ·simp only [cbeq, if_neg h0]
  refine loop_ix (l := l) (fun _ e => kindP p e = 1) (fun g => ?_) (fun i e he _ => ?_)
  ·simp only [g_R6_enters_l1, dge, cond_false, cbeq]
   by_cases h1 : (l.length : Int) = 1
   ·exact ⟨([0], true), by rw [if_pos h1]; rfl, fun _ => ⟨by omega, g, fun a b r h => by rw [h] at h1; simp at h1; omega⟩⟩
   ·rw [if_neg h1]
    obtain ⟨a, b, r, rfl⟩ : ∃ a b r, l = a :: b :: r := by
     match l, h0, h1 with
     | [], h0, _ => simp at h0
     | [a], _, h1 => simp at h1
     | a :: b :: r, _, _ => exact ⟨a, b, r, rfl⟩
    have i0 : idx (a :: b :: r) 0 = some a := rfl
    have i1 : idx (a :: b :: r) 1 = some b := rfl
    have st : ∀ (o e : Int), 0 ≤ e → g_R6_enters_l2 p (a :: b :: r) (o, e) = some (.inl (if meetsP p ⟨a, e⟩ b then e else o, wi64 (e - 1))) := by
     intro o e he
     simp only [g_R6_enters_l2, he, decide_true, cond_true, i0, i1, Option.bind_some, g_R6_Next_eq p (by omega), meets_opt]
     by_cases hm : meetsP p ⟨a, e⟩ b <;> simp [hm]
    have two : loopR (g_R6_enters_l2 p (a :: b :: r)) ((-1), 1) = loopR (g_R6_enters_l2 p (a :: b :: r)) (startF p a b, -1) := by
     rw [loopR_inl (st (-1) 1 (by omega)), show wi64 (1 - 1) = 0 by decide, loopR_inl (st _ 0 (by omega)), show wi64 (0 - 1) = -1 by decide]
     rfl
    rw [two, loopR_eq]
    simp only [g_R6_enters_l2, show decide ((0 : Int) ≤ -1) = false by decide, cond_false]
    by_cases hs : startF p a b < 0
    ·exact ⟨([], false), by simp [hs], by simp⟩
    ·have hd : decide (startF p a b < 0) = false := by simpa using hs
     simp only [hd, cond_false]
     have hr : startF p a b = 0 ∨ startF p a b = 1 := by
      unfold startF at hs ⊢
      split
      ·exact .inl rfl
      ·split
       ·exact .inr rfl
       ·rename_i h1 h2; rw [if_neg h1, if_neg h2] at hs; omega
     have key : ∃ b', loopR (g_R6_enters_l3 p (a :: b :: r)) (startF p a b, 1, [wi64 (1 - startF p a b)]) = some b' ∧ (b'.2 = true → chainP p (startF p a b) a (b :: r)) := by
      refine loop_up (fun k s => k + 1 ≤ (a :: b :: r).length ∧ s.2.1 = ((k + 1 : Nat) : Int) ∧ s.2.2.length ≤ k + 1 ∧ ∀ e, (a :: b :: r)[k]? = some e → chainP p s.1 e ((a :: b :: r).drop (k + 1)) → chainP p (startF p a b) a (b :: r)) (a :: b :: r).length ?_ ⟨by simp, rfl, by simp, fun e he h => by cases he; exact h⟩
      rintro k ⟨o, i, ins⟩ ⟨hk, hi, hins, hc⟩
      simp only at hi hins hc
      subst hi
      generalize hL : a :: b :: r = L at *
      by_cases he : k + 1 = L.length
      ·have : decide (((k + 1 : Nat) : Int) < L.length) = false := by simp; omega
       refine .inl ⟨(ins, true), by simp only [g_R6_enters_l3, this, cond_false], fun _ => ?_⟩
       have ha : L[k]? = some (L[k]'(by omega)) := List.getElem?_eq_getElem _
       refine hc _ ha ?_
       rw [List.drop_eq_nil_of_le (by omega)]
       trivial
      ·have hlt : k + 1 < L.length := by omega
       have : decide (((k + 1 : Nat) : Int) < L.length) = true := by simp; omega
       have ha : L[k]? = some (L[k]'(by omega)) := List.getElem?_eq_getElem _
       have hb : L[k + 1]? = some (L[k + 1]'hlt) := List.getElem?_eq_getElem _
       have e1 : wi64 (((k + 1 : Nat) : Int) - 1) = (k : Int) := by rw [wi64_id] <;> omega
       simp only [g_R6_enters_l3, this, cond_true, e1, idx_nat, ha, hb, Option.bind_some, g_R6_Next_eq p (show p.joins.length < 1000000 by omega), cbeq]
       cases hn : nextP p ⟨L[k]'(by omega), o⟩ with
       | none => exact .inl ⟨([], false), by simp, by simp⟩
       | some y =>
        by_cases hy : y.elem = L[k + 1]'hlt
        ·obtain ⟨f1, f2, _⟩ := hasP_fin (hj.next hn)
         have e2 : (y.elem != L[k + 1]'hlt) = false := by simp [hy]
         refine .inr ⟨by omega, (1 - y.fin, ((k + 1 + 1 : Nat) : Int), ins ++ [y.fin]), ?_, by omega, rfl, by simp; omega, fun e he' h => ?_⟩
         ·simp only [Option.isSome_some, Bool.not_true, cond_false, Option.getD_some, e2, Option.bind_some]
          rw [appI_ok (by simp; omega), wi64_succ (show k + 1 < 1000000000 by omega), wi64_id (n := 1 - y.fin) (by omega) (by omega)]; rfl
         ·cases he'
          refine hc _ ha ?_
          rw [List.drop_eq_getElem_cons hlt]
          exact ⟨y, hn, hy, h⟩
        ·have e2 : (y.elem != L[k + 1]'hlt) = true := bne_iff_ne.2 hy
         exact .inl ⟨([], false), by simp [e2], by simp⟩
     obtain ⟨b', hb', hp'⟩ := key
     exact ⟨b', by rw [hb']; rfl, fun h => ⟨by simp, g, fun a' b'' r' e => by cases e; exact ⟨by omega, hp' h⟩⟩⟩
  ·have := ilt he
   simp only [g_R6_enters_l1, dlt he, cond_true, idx_nat, he, Option.bind_some, cbne, g_R6_kind_eq, wi64_succ (show i < 1000000000 by omega)]
   by_cases h : kindP p e = 1
   ·exact .inr ⟨by rw [if_pos h], h⟩
   ·exact .inl ⟨([], false), by rw [if_neg h], by simp⟩
end Go.E
/- Plain Lean: the document's check answers of every plan that is not too long; what a plan is that it takes (Valid). No condition. -/
namespace Go.E
open Go
structure LineP (p : Plan) : Prop where
 line : ∀ (i : Nat) l, p.lines[i]? = some l → LineOK p l.elems
 once : (p.lines.flatMap (·.elems)).Nodup
theorem lines_total (p : Plan) (hf : FewP p) (hj : JoinP p) : ∃ b, g_R6_lines p = some b ∧ (b = true → LineP p) := by
 have q1 := hf.lines
 have len : ∀ k, ((p.lines.take k).flatMap (·.elems)).length ≤ 60 * k := by
  intro k
  induction k with
  | zero => simp
  | succ k ih =>
   cases h : p.lines[k]? with
   | none =>
    have : p.lines.take (k + 1) = p.lines.take k := by
     have := List.getElem?_eq_none_iff.1 h
     rw [List.take_of_length_le (by omega), List.take_of_length_le (by omega)]
    rw [this]; omega
   | some l =>
    rw [take_flat_succ h, List.length_append]
    have := (hf.line k l h).1
    omega
 unfold g_R6_lines
 refine loop_st (l := p.lines) (fun k c => c = (p.lines.take k).flatMap (·.elems) ∧ c.Nodup ∧ ∀ (i : Nat) l, i < k → p.lines[i]? = some l → LineOK p l.elems) (fun c hc => ?_) (fun i a c ha hc => ?_) (c := []) ⟨rfl, List.nodup_nil, fun i l h => by omega⟩
 ·rw [List.take_length] at hc
  exact ⟨true, by simp only [g_R6_lines_l1, dge, cond_false], fun _ => ⟨fun i l hl => hc.2.2 i l (ilt hl) hl, hc.1 ▸ hc.2.1⟩⟩
 ·obtain ⟨hc, hn, hp⟩ := hc
  have hi := ilt ha
  have hlen := len i
  have hal := (hf.line i a ha).1
  simp only [g_R6_lines_l1, dlt ha, cond_true, idx_nat, ha, Option.bind_some]
  have key : ∃ r, loopR (g_R6_lines_l2 p ((i : Int), c) a) (0, c) = some r ∧ (r = .inr false ∨ ∃ c', r = .inl (((i + 1 : Nat) : Int), c') ∧ c' = c ++ a.elems ∧ c'.Nodup ∧ LineOK p a.elems) := by
   refine loop_st (l := a.elems) (fun k d => d = c ++ a.elems.take k ∧ d.Nodup) (fun d hd => ?_) (fun k e d he hd => ?_) (c := c) ⟨by simp, hn⟩
   ·rw [List.take_length] at hd
    obtain ⟨b, hb, hb'⟩ := enters_total p hf hj a.elems hal
    simp only [g_R6_lines_l2, dge, cond_false, hb, Option.bind_some, wi64_succ (show i < 1000000000 by omega)]
    cases hq : b.2 with
    | false => exact ⟨.inr false, rfl, .inl rfl⟩
    | true => exact ⟨_, rfl, .inr ⟨d, rfl, hd.1, hd.2, hb' hq⟩⟩
   ·have hk := ilt he
    have hdl : d.length ≤ 60 * i + 60 := by rw [hd.1, hc, List.length_append, List.length_take]; omega
    obtain ⟨b, hb, hb'⟩ := In_total d e (by omega)
    simp only [g_R6_lines_l2, dlt he, cond_true, idx_nat, he, Option.bind_some, hb, wi64_succ (show k < 1000000000 by omega)]
    cases b with
    | true => exact .inl ⟨.inr false, rfl, .inl rfl⟩
    | false =>
     refine .inr ⟨d ++ [e], by rw [appI_ok (by simp; omega)]; rfl, ?_, ?_⟩
     ·rw [hd.1, List.append_assoc, List.take_add_one, he]; rfl
     ·rw [List.nodup_append]
      exact ⟨hd.2, by simp, fun x hx y hy => by simp at hy; subst hy; rintro rfl; exact hb' rfl hx⟩
  obtain ⟨r, hr, h⟩ := key
  rcases h with rfl | ⟨c', rfl, h1, h2, h3⟩
  ·exact .inl ⟨false, hr, by simp⟩
  ·refine .inr ⟨c', hr, by rw [h1, hc, take_flat_succ ha], h2, fun j l hj' hl => ?_⟩
   by_cases e : j = i
   ·subst e; rw [ha] at hl; cases hl; exact h3
   ·exact hp j l (by omega) hl
theorem stop_total (v b : Int) : ∃ n, g_R6_Stop v b = some n ∧ 0 ≤ n ∧ n ≤ 3600 := by
 unfold g_R6_Stop
 by_cases h : v < 0 ∨ 60 < v ∨ b < 1 ∨ 10 < b
 ·refine ⟨0, ?_, by omega, by omega⟩
  by_cases h1 : v < 0
  ·simp [h1]
  ·by_cases h2 : 60 < v
   ·simp [h1, h2]
   ·by_cases h3 : b < 1
    ·simp [h1, h2, h3]
    ·have h4 : 10 < b := by omega
     simp [h1, h2, h3, h4]
 ·have h1 : ¬ v < 0 := by omega
  have h2 : ¬ 60 < v := by omega
  have h3 : ¬ b < 1 := by omega
  have h4 : ¬ 10 < b := by omega
  simp only [h1, h2, h3, h4, decide_false, cond_false, Option.bind_some]
  rw [wi64_id (n := v - b) (by omega) (by omega)]
  refine loop_up (fun k s => s.1 ≤ 60 - (k : Int) ∧ -10 ≤ s.1 ∧ 0 ≤ s.2 ∧ s.2 ≤ 60 * (k : Int) ∧ k ≤ 60) 61 ?_ ⟨show v - b ≤ 60 - ((0 : Nat) : Int) by omega, show -10 ≤ v - b by omega, by simp, by simp, by omega⟩
  rintro k ⟨x, n⟩ ⟨a1, a2, a3, a4, a5⟩
  simp only at a1 a2 a3 a4
  by_cases hx : 0 < x
  ·refine .inr ⟨by omega, (x - b, n + x), by simp only [g_R6_Stop_l1, hx, decide_true, cond_true, wi64_id (n := x - b) (by omega) (by omega), wi64_id (n := n + x) (by omega) (by omega)], show x - b ≤ 60 - ((k + 1 : Nat) : Int) by omega, show -10 ≤ x - b by omega, show 0 ≤ n + x by omega, show n + x ≤ 60 * ((k + 1 : Nat) : Int) by omega, by omega⟩
  ·exact .inl ⟨n, by simp only [g_R6_Stop_l1, hx, decide_false, cond_false], a3, by omega⟩
structure LongP (p : Plan) : Prop where
 stop : ∀ n, g_R6_Stop p.top p.brake = some n → p.top + n ≤ p.margin
 signal : ∀ (i : Nat) s, p.signals[i]? = some s → kindP p s.at_.elem = 1 → p.margin ≤ lengthP p s.at_.elem
 elem : ∀ (i : Nat) e, p.elems[i]? = some e → e.kind ≠ 4 → p.top ≤ e.length
theorem long_total (p : Plan) (hf : FewP p) (ha : ArgsP p) : ∃ b, g_R6_long p = some b ∧ (b = true → LongP p) := by
 have q1 := hf.elems; have q3 := hf.signals; have q4 := ha.top
 obtain ⟨n, hn, n1, n2⟩ := stop_total p.top p.brake
 unfold g_R6_long
 simp only [hn, Option.bind_some]
 rw [wi64_id (n := p.top + n) (by omega) (by omega)]
 by_cases h : p.margin < p.top + n
 ·exact ⟨false, by simp [h], by simp⟩
 ·have hd : decide (p.margin < p.top + n) = false := by simpa using h
  simp only [hd, cond_false]
  refine loop_ix (l := p.signals) (fun i s => kindP p s.at_.elem = 1 → p.margin ≤ lengthP p s.at_.elem) (fun g => ?_) (fun i s hs _ => ?_)
  ·obtain ⟨b, hb, hg⟩ : ∃ b, loopR (g_R6_long_l2 p) 0 = some b ∧ (b = true → LongP p) := by
    refine loop_ix (l := p.elems) (fun i e => e.kind ≠ 4 → p.top ≤ e.length) (fun g2 => ?_) (fun i e he _ => ?_)
    ·exact ⟨true, by simp only [g_R6_long_l2, dge, cond_false], fun _ => ⟨fun m hm => by rw [hn] at hm; cases hm; omega, g, g2⟩⟩
    ·have := ilt he
     simp only [g_R6_long_l2, dlt he, cond_true, idx_nat, he, Option.bind_some, cbne, wi64_succ (show i < 1000000000 by omega)]
     by_cases hk : e.kind = 4
     ·exact .inr ⟨by simp [hk], fun h => absurd hk h⟩
     ·by_cases hl : e.length < p.top
      ·exact .inl ⟨false, by simp [hk, hl], by simp⟩
      ·exact .inr ⟨by simp [hk, hl], fun _ => by omega⟩
   exact ⟨b, by simp only [g_R6_long_l1, dge, cond_false, hb]; rfl, hg⟩
  ·have := ilt hs
   simp only [g_R6_long_l1, dlt hs, cond_true, idx_nat, hs, Option.bind_some, cbeq, g_R6_kind_eq, g_R6_Length_eq, wi64_succ (show i < 1000000000 by omega)]
   by_cases hk : kindP p s.at_.elem = 1
   ·by_cases hl : lengthP p s.at_.elem < p.margin
    ·exact .inl ⟨false, by simp [hk, hl], by simp⟩
    ·exact .inr ⟨by simp [hk, hl], fun _ => by omega⟩
   ·exact .inr ⟨by simp [hk], fun h => absurd h hk⟩
structure Valid (p : Plan) : Prop where
 few : FewP p
 ne : p.elems.length ≤ 40
 ns : p.signals.length ≤ 24
 nl : p.lines.length ≤ 4
 nj : p.joins.length ≤ 80
 args : ArgsP p
 n1 : Apart (p.elems.map (·.name))
 n2 : Apart (p.signals.map (·.name))
 n3 : Apart (p.lines.map (·.name))
 join : JoinP p
 sig : SigP p
 line : LineP p
 long : LongP p
theorem check_total (p : Plan) (hf : FewP p) : ∃ r, g_R6_Check p = some r ∧ (r = 0 → Valid p) := by
 have q1 := hf.elems; have q2 := hf.joins; have q3 := hf.signals; have q4 := hf.lines
 unfold g_R6_Check
 by_cases a1 : (40 : Int) < p.elems.length
 ·exact ⟨3, by simp [a1], fun h => absurd h (by decide)⟩
 by_cases a2 : (24 : Int) < p.signals.length
 ·exact ⟨3, by simp [a1, a2], fun h => absurd h (by decide)⟩
 by_cases a3 : (4 : Int) < p.lines.length
 ·exact ⟨3, by simp [a1, a2, a3], fun h => absurd h (by decide)⟩
 by_cases a4 : (80 : Int) < p.joins.length
 ·exact ⟨3, by simp [a1, a2, a3, a4], fun h => absurd h (by decide)⟩
 simp only [a1, a2, a3, a4, decide_false, cond_false, Option.bind_some, names_eq p hf]
 obtain ⟨b1, h1, g1⟩ := args_total p hf
 simp only [h1, Option.bind_some]
 cases b1 with
 | false => exact ⟨1, rfl, fun h => absurd h (by decide)⟩
 | true =>
  obtain ⟨t1, k1, m1⟩ := twice_total (p.elems.map (·.name)) (by simp; omega)
  obtain ⟨t2, k2, m2⟩ := twice_total (p.signals.map (·.name)) (by simp; omega)
  obtain ⟨t3, k3, m3⟩ := twice_total (p.lines.map (·.name)) (by simp; omega)
  simp only [k1, k2, k3, Option.bind_some, Bool.not_true, cond_false]
  cases t1 with
  | true => exact ⟨4, rfl, fun h => absurd h (by decide)⟩
  | false =>
   cases t2 with
   | true => exact ⟨4, rfl, fun h => absurd h (by decide)⟩
   | false =>
    cases t3 with
    | true => exact ⟨4, rfl, fun h => absurd h (by decide)⟩
    | false =>
     obtain ⟨b2, h2, g2⟩ := joined_total p hf
     simp only [h2, Option.bind_some, cond_false]
     cases b2 with
     | false => exact ⟨6, rfl, fun h => absurd h (by decide)⟩
     | true =>
      obtain ⟨b3, h3, g3⟩ := signals_total p hf
      simp only [h3, Option.bind_some, Bool.not_true, cond_false]
      cases b3 with
      | false => exact ⟨7, rfl, fun h => absurd h (by decide)⟩
      | true =>
       obtain ⟨b4, h4, g4⟩ := lines_total p hf (g2 rfl)
       simp only [h4, Option.bind_some, Bool.not_true, cond_false]
       cases b4 with
       | false => exact ⟨8, rfl, fun h => absurd h (by decide)⟩
       | true =>
        obtain ⟨b5, h5, g5⟩ := long_total p hf (g1 rfl)
        simp only [h5, Option.bind_some, Bool.not_true, cond_false]
        cases b5 with
        | false => exact ⟨9, rfl, fun h => absurd h (by decide)⟩
        | true => exact ⟨0, rfl, fun _ => ⟨hf, by omega, by omega, by omega, by omega, g1 rfl, m1 rfl, m2 rfl, m3 rfl, g2 rfl, g3 rfl, g4 rfl, g5 rfl⟩⟩
theorem fine_total (p : Plan) : ∃ b, g_R6_Fine p = some b ∧ (b = true → Valid p) := by
 obtain ⟨b, hb, hf⟩ := few_total p
 unfold g_R6_Fine
 simp only [hb, Option.bind_some]
 cases b with
 | false => exact ⟨false, rfl, by simp⟩
 | true =>
  obtain ⟨r, hr, hv⟩ := check_total p (hf rfl)
  simp only [hr, Option.bind_some, cond_true]
  exact ⟨r == 0, rfl, fun h => hv (by simpa using h)⟩
end Go.E
/- Plain Lean: the program's check takes each valid plan: numbers, names, joins. No condition. -/
namespace Go.E
open Go
section
variable {κ υ : Type} [BEq κ] [PartialEquivBEq κ]
theorem assoc_aput (x : κ) (v : υ) (y : κ) : ∀ m : List (κ × υ), (x == x) = true → assoc (aput x v m) y = if y == x then some v else assoc m y
 | [], _ => by simp [aput, assoc]
 | p :: m, hx => by
  simp only [aput]
  by_cases h : (x == p.1) = true
  ·simp only [h, if_true, assoc]
   by_cases h2 : (y == p.1) = true
   ·have : (y == x) = true := PartialEquivBEq.trans h2 (PartialEquivBEq.symm h)
    simp [h2, this]
   ·have : ¬ (y == x) = true := fun h3 => h2 (PartialEquivBEq.trans h3 h)
    simp [h2, this]
  ·simp only [h, if_false, assoc, Bool.false_eq_true]
   rw [assoc_aput x v y m hx]
   by_cases h2 : (y == p.1) = true
   ·have : ¬ (y == x) = true := fun h3 => h (PartialEquivBEq.trans (PartialEquivBEq.symm h3) h2)
    simp [h2, this]
   ·simp [h2]
end
theorem assoc_aput' {κ υ : Type} [DecidableEq κ] (x : κ) (v : υ) (y : κ) (m : List (κ × υ)) : assoc (aput x v m) y = if y = x then some v else assoc m y := by
 rw [assoc_aput x v y m (by simp)]
 by_cases h : y = x <;> simp [h]
instance : PartialEquivBEq ByteArray where
 symm {a b} h := by
  have : (a.toList == b.toList) = true := h
  show (b.toList == a.toList) = true
  simpa using (by simpa using this : a.toList = b.toList).symm
 trans {a b c} h g := by
  have h' : (a.toList == b.toList) = true := h
  have g' : (b.toList == c.toList) = true := g
  show (a.toList == c.toList) = true
  simp only [beq_iff_eq] at h' g' ⊢
  exact h'.trans g'
theorem g_word_letter_eq (c : UInt8) : g_word_letter (c.toNat : Int) = some (letterF c) := by
 unfold g_word_letter letterF
 cases decide (97 ≤ (c.toNat : Int)) <;> cases decide ((c.toNat : Int) ≤ 122) <;> cases decide (65 ≤ (c.toNat : Int)) <;> cases decide ((c.toNat : Int) ≤ 90) <;> rfl
theorem toList_size (s : ByteArray) : s.toList.length = s.size := by
 have key : ∀ (n i : Nat) (r : List UInt8), s.size - i ≤ n → (ByteArray.toList.loop s i r).length = (s.size - i) + r.length := by
  intro n
  induction n with
  | zero =>
   intro i r h
   unfold ByteArray.toList.loop
   rw [if_neg (by omega)]; simp; omega
  | succ n ih =>
   intro i r h
   unfold ByteArray.toList.loop
   split
   ·rw [ih (i + 1) _ (by omega)]; simp; omega
   ·simp; omega
 have := key s.size 0 [] (by omega)
 show (ByteArray.toList.loop s 0 []).length = s.size
 rw [this]; simp
theorem word_name_ok (s : ByteArray) (h : NameOK s) : g_word_Name s = some true := by
  have h1 := h.pos; have h2 := h.le
  have e0 : (s.toList == ByteArray.empty.toList) = false := by
    rw [beq_eq_false_iff_ne]
    intro e
    have h0 : s.toList.length = ByteArray.empty.size := by rw [e, toList_size]
    rw [toList_size, show ByteArray.empty.size = 0 from rfl] at h0
    omega
  have e1 : decide ((8 : Int) < s.size) = false := by simp; omega
  have c0 : s[0]? = some s[0] := getElem?_pos s 0 (by omega)
  have x0 : idxS s 0 = some s[0] := c0
  have l0 : letterF s[0] = true := by
    rcases h.chars 0 _ c0 with h | ⟨h, _⟩
    · exact h
    · exact absurd rfl h
  unfold g_word_Name
  simp only [e0, e1, cond_false, x0, Option.bind_some, g_word_letter_eq, l0, Bool.not_true]
  obtain ⟨b, hb, rfl⟩ := loop_bytes (s := s) (step := g_word_Name_l1 s) (Post := fun b => b = true) (fun _ _ => True) 1 (by omega)
    (fun _ => ⟨true, by have : decide ((s.size : Int) < s.size) = false := by simp
                        simp only [g_word_Name_l1, this, cond_false], rfl⟩) (fun i c hi hc => by
      have hlt : i < s.size := by
        by_cases h : i < s.size
        · exact h
        · rw [getElem?_neg s i h] at hc; cases hc
      have hd : decide ((i : Int) < s.size) = true := by simpa using hlt
      have hx : idxS s (i : Int) = some c := hc
      refine .inr ⟨?_, trivial⟩
      simp only [g_word_Name_l1, hd, cond_true, hx, Option.bind_some, g_word_letter_eq, wi64_succ (show i < 1000000000 by omega)]
      rcases h.chars i c hc with h | ⟨_, h⟩
      · simp [h]
      · cases hL : letterF c with
        | true => simp
        | false =>
          simp only [digitF, Bool.and_eq_true, decide_eq_true_eq] at h
          have g1 : ¬ (c.toNat : Int) < 48 := by omega
          have g2 : ¬ (57 : Int) < c.toNat := by omega
          simp [g1, g2])
  exact hb
theorem numbers_ok (p : Plan) (hf : FewP p) (ha : ArgsP p) : g_plan_numbers p = some true := by
 have q1 := hf.elems; have q2 := hf.signals; have q3 := hf.lines
 obtain ⟨a1, a2⟩ := ha.top; obtain ⟨b1, b2⟩ := ha.brake; obtain ⟨c1, c2⟩ := ha.margin; obtain ⟨d1, d2⟩ := ha.throw
 have h0 : ((p.elems.length : Int) == 0) = false := by rw [beq_eq_false_iff_ne]; have := ha.one; omega
 unfold g_plan_numbers
 simp only [show ¬ p.top < 1 by omega, show ¬ 60 < p.top by omega, show ¬ p.brake < 1 by omega, show ¬ 10 < p.brake by omega, show ¬ p.margin < 1 by omega, show ¬ 4000 < p.margin by omega,
  show ¬ p.throw < 1 by omega, show ¬ 20 < p.throw by omega, decide_false, cond_false, h0, Option.bind_some]
 have e3 : loopR (g_plan_numbers_l3 p) 0 = some true := by
  obtain ⟨b, hb, rfl⟩ := loop_ix (l := p.lines) (step := g_plan_numbers_l3 p) (Post := fun b => b = true) (fun _ _ => True) (fun _ => ⟨true, by simp only [g_plan_numbers_l3, dge, cond_false], rfl⟩)
   (fun i a h _ => .inr ⟨by have := ilt h; simp only [g_plan_numbers_l3, dlt h, cond_true, idx_nat, h, Option.bind_some, word_name_ok _ (ha.line i a h), wi64_succ (show i < 1000000000 by omega)]; rfl, trivial⟩)
  exact hb
 have e2 : loopR (g_plan_numbers_l2 p) 0 = some true := by
  obtain ⟨b, hb, rfl⟩ := loop_ix (l := p.signals) (step := g_plan_numbers_l2 p) (Post := fun b => b = true) (fun _ _ => True) (fun _ => ⟨true, by simp only [g_plan_numbers_l2, dge, cond_false, e3]; rfl, rfl⟩)
   (fun i a h _ => .inr ⟨by have := ilt h; simp only [g_plan_numbers_l2, dlt h, cond_true, idx_nat, h, Option.bind_some, word_name_ok _ (ha.signal i a h), wi64_succ (show i < 1000000000 by omega)]; rfl, trivial⟩)
  exact hb
 obtain ⟨b, hb, rfl⟩ := loop_ix (l := p.elems) (step := g_plan_numbers_l1 p) (Post := fun b => b = true) (fun _ _ => True) (fun _ => ⟨true, by simp only [g_plan_numbers_l1, dge, cond_false, e2]; rfl, rfl⟩)
  (fun i a h _ => .inr ⟨by
   have := ilt h
   have hk := ha.elem i a h
   simp only [g_plan_numbers_l1, dlt h, cond_true, idx_nat, h, Option.bind_some, word_name_ok _ hk.name, g_plan_Ends_eq, wi64_succ (show i < 1000000000 by omega), cbeq, cbne]
   have e : (endsF a.kind == 0) = false := beq_eq_false_iff_ne.2 hk.ends
   by_cases h4 : a.kind = 4
   ·simp only [e, h4, if_true, hk.gate h4]; rfl
   ·obtain ⟨l1, l2⟩ := hk.len h4
    simp only [e, if_neg h4, show ¬ a.length < 1 by omega, show ¬ 4000 < a.length by omega, decide_false]; rfl, trivial⟩)
 exact hb
end Go.E
/- Plain Lean: the program's check takes each valid plan: no text twice, joins, signals, lines, lengths. No condition. -/
namespace Go.E
open Go
theorem seen_step {c : List (ByteArray × Bool)} {l : List ByteArray} {i : Nat} {a : ByteArray} (ha : l[i]? = some a)
  (hI : ∀ x, (assoc c x).getD false = true → ∃ (k : Nat) (b : ByteArray), k < i ∧ l[k]? = some b ∧ b.toList = x.toList) :
  ∀ x, (assoc (aput a true c) x).getD false = true → ∃ (k : Nat) (b : ByteArray), k < i + 1 ∧ l[k]? = some b ∧ b.toList = x.toList := by
 intro x hx
 have hr : (a == a) = true := by show (a.toList == a.toList) = true; simp
 rw [assoc_aput a true x c hr] at hx
 by_cases h : (x == a) = true
 ·have : (x.toList == a.toList) = true := h
  exact ⟨i, a, by omega, ha, by simpa using (by simpa using this : x.toList = a.toList).symm⟩
 ·rw [if_neg h] at hx
  obtain ⟨k, b, hk, h1, h2⟩ := hI x hx
  exact ⟨k, b, by omega, h1, h2⟩
theorem seen_no {c : List (ByteArray × Bool)} {l : List ByteArray} {i : Nat} {a : ByteArray} (ha : l[i]? = some a) (hA : Apart l)
  (hI : ∀ x, (assoc c x).getD false = true → ∃ (k : Nat) (b : ByteArray), k < i ∧ l[k]? = some b ∧ b.toList = x.toList) : (assoc c a).getD false = false := by
 cases h : (assoc c a).getD false with
 | false => rfl
 | true =>
  obtain ⟨k, b, hk, h1, h2⟩ := hI a h
  exact absurd h2.symm (hA i k a b hk ha h1)
theorem twice1 (p : Plan) (hf : FewP p) (hA : Apart (p.elems.map (·.name))) : loopR (g_plan_Check_l1 p) (0, []) = some false := by
 have q := hf.elems
 obtain ⟨b, hb, rfl⟩ := loop_st (l := p.elems) (step := g_plan_Check_l1 p) (Post := fun b => b = false) (fun i c => ∀ x, (assoc c x).getD false = true → ∃ (k : Nat) (b : ByteArray), k < i ∧ (p.elems.map (·.name))[k]? = some b ∧ b.toList = x.toList)
  (fun c _ => ⟨false, by simp only [g_plan_Check_l1, dge, cond_false], rfl⟩) (fun i a c ha hI => by
   have := ilt ha
   have hm : (p.elems.map (·.name))[i]? = some a.name := by simp [ha]
   refine .inr ⟨_, ?_, seen_step hm hI⟩
   simp only [g_plan_Check_l1, dlt ha, cond_true, g_plan_Check_1, idx_nat, ha, Option.bind_some, seen_no hm hA hI, cond_false, wi64_succ (show i < 1000000000 by omega)]) (c := []) (fun x hx => by simp [assoc] at hx)
 exact hb
theorem twice2 (p : Plan) (hf : FewP p) (hA : Apart (p.signals.map (·.name))) : loopR (g_plan_Check_l2 p) (0, []) = some false := by
 have q := hf.signals
 obtain ⟨b, hb, rfl⟩ := loop_st (l := p.signals) (step := g_plan_Check_l2 p) (Post := fun b => b = false) (fun i c => ∀ x, (assoc c x).getD false = true → ∃ (k : Nat) (b : ByteArray), k < i ∧ (p.signals.map (·.name))[k]? = some b ∧ b.toList = x.toList)
  (fun c _ => ⟨false, by simp only [g_plan_Check_l2, dge, cond_false], rfl⟩) (fun i a c ha hI => by
   have := ilt ha
   have hm : (p.signals.map (·.name))[i]? = some a.name := by simp [ha]
   refine .inr ⟨_, ?_, seen_step hm hI⟩
   simp only [g_plan_Check_l2, dlt ha, cond_true, g_plan_Check_2, idx_nat, ha, Option.bind_some, seen_no hm hA hI, cond_false, wi64_succ (show i < 1000000000 by omega)]) (c := []) (fun x hx => by simp [assoc] at hx)
 exact hb
theorem twice3 (p : Plan) (hf : FewP p) (hA : Apart (p.lines.map (·.name))) : loopR (g_plan_Check_l3 p) (0, []) = some false := by
 have q := hf.lines
 obtain ⟨b, hb, rfl⟩ := loop_st (l := p.lines) (step := g_plan_Check_l3 p) (Post := fun b => b = false) (fun i c => ∀ x, (assoc c x).getD false = true → ∃ (k : Nat) (b : ByteArray), k < i ∧ (p.lines.map (·.name))[k]? = some b ∧ b.toList = x.toList)
  (fun c _ => ⟨false, by simp only [g_plan_Check_l3, dge, cond_false], rfl⟩) (fun i a c ha hI => by
   have := ilt ha
   have hm : (p.lines.map (·.name))[i]? = some a.name := by simp [ha]
   refine .inr ⟨_, ?_, seen_step hm hI⟩
   simp only [g_plan_Check_l3, dlt ha, cond_true, g_plan_Check_3, idx_nat, ha, Option.bind_some, seen_no hm hA hI, cond_false, wi64_succ (show i < 1000000000 by omega)]) (c := []) (fun x hx => by simp [assoc] at hx)
 exact hb
theorem nextL_app (j : Join) (x : Port) : ∀ l : List Join, nextL (l ++ [j]) x = match nextL l x with
  | some y => some y
  | none => if j.a = x then some j.b else if j.b = x then some j.a else none
 | [] => by simp [nextL]
 | k :: l => by
  simp only [List.cons_append, nextL]
  split
  ·rfl
  ·split
   ·rfl
   ·exact nextL_app j x l
theorem nextL_none {x : Port} : ∀ {l : List Join}, x ∉ (l.flatMap fun j => [j.a, j.b]) → nextL l x = none
 | [], _ => rfl
 | j :: l, h => by
  simp only [List.flatMap_cons, List.mem_append, List.mem_cons, List.not_mem_nil, or_false, not_or] at h
  obtain ⟨⟨h1, h2⟩, h3⟩ := h
  simp only [nextL]
  rw [if_neg (fun e => h1 e.symm), if_neg (fun e => h2 e.symm)]
  exact nextL_none h3
theorem ports_at {p : Plan} {i : Nat} {j : Join} (h : p.joins[i]? = some j) : (portsP p)[2 * i]? = some j.a ∧ (portsP p)[2 * i + 1]? = some j.b := by
 have key : ∀ (l : List Join) (i : Nat), l[i]? = some j → (l.flatMap fun j => [j.a, j.b])[2 * i]? = some j.a ∧ (l.flatMap fun j => [j.a, j.b])[2 * i + 1]? = some j.b := by
  intro l
  induction l with
  | nil => intro i h; simp at h
  | cons k l ih =>
   intro i h
   cases i with
   | zero => cases h; simp
   | succ i =>
    have := ih i (by simpa using h)
    simp only [List.flatMap_cons, List.cons_append, List.nil_append]
    exact ⟨by rw [show 2 * (i + 1) = 2 * i + 1 + 1 by omega]; simpa using this.1, by rw [show 2 * (i + 1) + 1 = 2 * i + 1 + 1 + 1 by omega]; simpa using this.2⟩
 exact key p.joins i h
theorem JoinP.old {p : Plan} (hj : JoinP p) {i : Nat} {j : Join} (h : p.joins[i]? = some j) :
  j.a ∉ ((p.joins.take i).flatMap fun j => [j.a, j.b]) ∧ j.b ∉ ((p.joins.take i).flatMap fun j => [j.a, j.b]) ∧ j.a ≠ j.b := by
 obtain ⟨h1, h2⟩ := ports_at h
 have hlt := ilt h
 have pre : ∀ x, x ∈ ((p.joins.take i).flatMap fun j => [j.a, j.b]) → ∃ k, k < 2 * i ∧ (portsP p)[k]? = some x := by
  intro x hx
  obtain ⟨k, hk⟩ := List.mem_iff_getElem?.1 hx
  have hkl := ilt hk
  rw [flat_len2, List.length_take] at hkl
  refine ⟨k, by omega, ?_⟩
  have : portsP p = ((p.joins.take i).flatMap fun j => [j.a, j.b]) ++ ((p.joins.drop i).flatMap fun j => [j.a, j.b]) := by
   rw [← List.flatMap_append, List.take_append_drop]; rfl
  rw [this, List.getElem?_append_left (by rw [flat_len2, List.length_take]; omega)]
  exact hk
 refine ⟨fun hx => ?_, fun hx => ?_, ?_⟩
 ·obtain ⟨k, hk, e⟩ := pre _ hx; exact hj.dist _ _ _ _ hk h1 e rfl
 ·obtain ⟨k, hk, e⟩ := pre _ hx; exact hj.dist _ _ _ _ (by omega) h2 e rfl
 ·exact hj.dist _ _ _ _ (by omega : 2 * i < 2 * i + 1) h2 h1
theorem next_step {p : Plan} (hj : JoinP p) {i : Nat} {j : Join} (h : p.joins[i]? = some j) {c : List (Port × Port)} (hI : ∀ x, assoc c x = nextL (p.joins.take i) x) :
  ∀ x, assoc (aput j.b j.a (aput j.a j.b c)) x = nextL (p.joins.take (i + 1)) x := by
 intro x
 obtain ⟨o1, o2, o3⟩ := hj.old h
 rw [assoc_aput', assoc_aput', List.take_add_one, h]
 simp only [Option.toList_some]
 rw [nextL_app, hI]
 by_cases h1 : x = j.b
 ·subst h1
  rw [if_pos rfl, nextL_none o2]
  simp [o3]
 ·rw [if_neg h1]
  by_cases h2 : x = j.a
  ·subst h2
   rw [if_pos rfl, nextL_none o1]
   simp
  ·rw [if_neg h2, if_neg (fun e => h2 e.symm), if_neg (fun e => h1 e.symm)]
   cases nextL (p.joins.take i) x <;> rfl
theorem hasP_idx {p : Plan} {x : Port} (h : hasP p x = true) : ∃ e, idx p.elems x.elem = some e ∧ kindP p x.elem = e.kind := by
 obtain ⟨h1, h2, h3⟩ := hasP_fin h
 cases hi : idx p.elems x.elem with
 | none => simp only [kindP, hi] at h3; simp [endsF] at h3; omega
 | some e => exact ⟨e, rfl, by simp [kindP, hi]⟩
theorem plan_joined_ok (p : Plan) (hf : FewP p) (hj : JoinP p) : ∃ m, g_plan_joined p = some (m, true) ∧ ∀ x, assoc m x = nextP p x := by
 have q1 := hf.elems; have q2 := hf.joins
 unfold g_plan_joined
 have gates : ∀ s : Int × List (Port × Port), (∀ x, assoc s.2 x = nextP p x) → loopR (g_plan_joined_l2 p s) 0 = some (s.2, true) := by
  intro s hs
  obtain ⟨b, hb, rfl⟩ := loop_ix (l := p.elems) (step := g_plan_joined_l2 p s) (Post := fun b => b = (s.2, true)) (fun _ _ => True) (fun _ => ⟨_, by simp only [g_plan_joined_l2, dge, cond_false], rfl⟩) (fun i e he _ => by
   have := ilt he
   refine .inr ⟨?_, trivial⟩
   simp only [g_plan_joined_l2, dlt he, cond_true, idx_nat, he, Option.bind_some, cbne, hs, wi64_succ (show i < 1000000000 by omega)]
   by_cases hk : e.kind = 4
   ·obtain ⟨y, hy, hyk⟩ := hj.gate i e he hk
    obtain ⟨e', he', hke⟩ := hasP_idx (hj.next hy)
    have : (e'.kind == 4) = false := beq_eq_false_iff_ne.2 (by rw [← hke]; exact hyk)
    simp [hk, hy, he', this, seqR]
   ·simp [hk, seqR])
  exact hb
 obtain ⟨b, hb, h1, h2⟩ := loop_st (l := p.joins) (step := g_plan_joined_l1 p) (Post := fun b => b.2 = true ∧ ∀ x, assoc b.1 x = nextP p x) (fun i c => ∀ x, assoc c x = nextL (p.joins.take i) x) (fun c hI => by
   rw [List.take_length] at hI
   exact ⟨(c, true), by simp only [g_plan_joined_l1, dge, cond_false, gates ((p.joins.length : Int), c) hI]; rfl, rfl, hI⟩) (fun i j c h hI => by
   have := ilt h
   obtain ⟨o1, o2, o3⟩ := hj.old h
   obtain ⟨p1, p2⟩ := ports_at h
   refine .inr ⟨_, ?_, next_step hj h hI⟩
   have e3 : (j.a == j.b) = false := beq_eq_false_iff_ne.2 o3
   simp only [g_plan_joined_l1, dlt h, cond_true, idx_nat, h, Option.bind_some, hI, nextL_none o1, nextL_none o2, e3, g_plan_port_eq, hj.has _ _ p1, hj.has _ _ p2, wi64_succ (show i < 1000000000 by omega)]
   rfl) (c := []) (fun x => by simp [assoc, nextL])
 obtain ⟨m, t⟩ := b
 simp only at h1 h2
 subst h1
 exact ⟨m, hb, h2⟩
end Go.E
/- Plain Lean: the program's check takes each valid plan. No condition. -/
namespace Go.E
open Go
theorem mem_take {α : Type} {l : List α} {k : Nat} {x : α} (h : x ∈ l.take k) : ∃ j, j < k ∧ l[j]? = some x := by
 obtain ⟨j, hj⟩ := List.mem_iff_getElem?.1 h
 have := ilt hj
 rw [List.length_take] at this
 rw [List.getElem?_take, if_pos (by omega)] at hj
 exact ⟨j, by omega, hj⟩
theorem plan_signals_ok (p : Plan) (hv : Valid p) (m : List (Port × Port)) (hm : ∀ x, assoc m x = nextP p x) : g_plan_signals p m = some true := by
 have q1 := hv.few.elems; have q3 := hv.few.signals
 have hs := hv.sig
 unfold g_plan_signals
 have gates : ∀ s : Int × List (Port × Bool), (∀ x, (assoc s.2 x).getD false = decide (x ∈ p.signals.map (·.at_))) → loopR (g_plan_signals_l2 p s) 0 = some true := by
  intro s hS
  obtain ⟨b, hb, rfl⟩ := loop_ix (l := p.elems) (step := g_plan_signals_l2 p s) (Post := fun b => b = true) (fun _ _ => True) (fun _ => ⟨_, by simp only [g_plan_signals_l2, dge, cond_false], rfl⟩) (fun i e he _ => by
   have := ilt he
   refine .inr ⟨?_, trivial⟩
   simp only [g_plan_signals_l2, dlt he, cond_true, idx_nat, he, Option.bind_some, cbeq, hS, wi64_succ (show i < 1000000000 by omega)]
   by_cases hk : e.kind = 4
   ·have h0 := hs.gate i e he hk
    have : (⟨(i : Int), 0⟩ : Port) ∈ p.signals.map (·.at_) := by
     rcases readsF_spec ⟨(i : Int), 0⟩ p.signals 0 with ⟨h1, _⟩ | ⟨k, t, h1, h2, _⟩
     ·unfold readsP at h0; rw [h1] at h0; omega
     ·exact List.mem_map.2 ⟨t, List.mem_of_getElem? h1, h2⟩
    simp only [if_pos hk, this, decide_true]; rfl
   ·simp only [if_neg hk]; rfl)
  exact hb
 obtain ⟨b, hb, rfl⟩ := loop_st (l := p.signals) (step := g_plan_signals_l1 p m) (Post := fun b => b = true) (fun i c => ∀ x, (assoc c x).getD false = decide (x ∈ (p.signals.take i).map (·.at_))) (fun c hI => by
   rw [List.take_length] at hI
   exact ⟨true, by simp only [g_plan_signals_l1, dge, cond_false, gates ((p.signals.length : Int), c) hI]; rfl, rfl⟩) (fun i s c h hI => by
   have := ilt h
   obtain ⟨e, he, hke⟩ := hasP_idx (hs.has i s h)
   obtain ⟨y, hy, hyk⟩ := hs.next i s h
   obtain ⟨e', he', hke'⟩ := hasP_idx (hv.join.next hy)
   have hk : ((bif (e.kind != 1) then some (e.kind != 4) else some false : Option Bool)) = some false := by
    rcases hs.kind i s h with hk | hk <;> rw [hke] at hk <;> simp [hk]
   have hk' : (e'.kind == 4) = false := beq_eq_false_iff_ne.2 (by rw [← hke']; exact hyk)
   have hnew : ¬ s.at_ ∈ (p.signals.take i).map (·.at_) := by
    intro hx
    obtain ⟨t, ht, hte⟩ := List.mem_map.1 hx
    obtain ⟨j, hj, hjt⟩ := mem_take ht
    have h1 := hs.reads i s h
    have h2 := hs.reads j t hjt
    rw [hte, h1] at h2
    omega
   refine .inr ⟨aput s.at_ true c, ?_, fun x => ?_⟩
   ·simp only [g_plan_signals_l1, dlt h, cond_true, idx_nat, h, Option.bind_some, g_plan_port_eq, hs.has i s h, hI, hnew, decide_false, he, hk, hm, hy, Option.isSome_some, Option.getD_some, he', hk', Bool.not_true, cond_false, wi64_succ (show i < 1000000000 by omega)]
   ·rw [assoc_aput', List.take_add_one, h]
    simp only [Option.toList_some, List.map_append, List.map_cons, List.map_nil, List.mem_append, List.mem_singleton]
    by_cases hx : x = s.at_
    ·simp [hx]
    ·rw [if_neg hx, hI]; simp only [hx, or_false]) (c := []) (fun x => by simp [assoc])
 exact hb
theorem meets_optM {p : Plan} {m : List (Port × Port)} (hm : ∀ x, assoc m x = nextP p x) (x : Port) (f : Int) : ((bif (assoc m x).isSome then some (((assoc m x).getD ⟨0, 0⟩).elem == f) else some false : Option Bool)) = some (decide (meetsP p x f)) := by
 rw [hm]; exact meets_opt p x f
theorem chainP_at {p : Plan} : ∀ {r : List Int} {o e : Int} {f : Int}, chainP p o e (f :: r) → ∃ y, nextP p ⟨e, o⟩ = some y ∧ y.elem = f ∧ chainP p (1 - y.fin) f r := fun h => h
theorem plan_row_ok (p : Plan) (hv : Valid p) (m : List (Port × Port)) (hm : ∀ x, assoc m x = nextP p x) (l : List Int) (hl : LineOK p l) (hlen : l.length ≤ 60) : g_plan_row l m = some true := by
 unfold g_plan_row
 by_cases h2 : (l.length : Int) < 2
 ·simp [h2]
 ·have hd : decide ((l.length : Int) < 2) = false := by simpa using h2
  simp only [hd, cond_false]
  obtain ⟨a, b, r, rfl⟩ : ∃ a b r, l = a :: b :: r := by
   match l, h2 with
   | [], h => simp at h
   | [a], h => simp at h
   | a :: b :: r, _ => exact ⟨a, b, r, rfl⟩
  have i0 : idx (a :: b :: r) 0 = some a := rfl
  have i1 : idx (a :: b :: r) 1 = some b := rfl
  obtain ⟨hs, hc⟩ := hl.chain a b r rfl
  have st : ∀ (o e : Int), 0 ≤ e → g_plan_row_l1 (a :: b :: r) m (o, e) = some (.inl (if meetsP p ⟨a, e⟩ b then e else o, wi64 (e - 1))) := by
   intro o e he
   simp only [g_plan_row_l1, he, decide_true, cond_true, i0, i1, Option.bind_some, meets_optM hm]
   by_cases hm : meetsP p ⟨a, e⟩ b <;> simp [hm]
  have two : loopR (g_plan_row_l1 (a :: b :: r) m) ((-1), 1) = loopR (g_plan_row_l1 (a :: b :: r) m) (startF p a b, -1) := by
   rw [loopR_inl (st (-1) 1 (by omega)), show wi64 (1 - 1) = 0 by decide, loopR_inl (st _ 0 (by omega)), show wi64 (0 - 1) = -1 by decide]
   rfl
  rw [two, loopR_eq]
  have hsd : decide (startF p a b < 0) = false := by simp; omega
  simp only [g_plan_row_l1, show decide ((0 : Int) ≤ -1) = false by decide, cond_false, hsd]
  have key : loopR (g_plan_row_l2 (a :: b :: r) m) (startF p a b, 1) = some true := by
   obtain ⟨t, ht, rfl⟩ : ∃ t, loopR (g_plan_row_l2 (a :: b :: r) m) (startF p a b, 1) = some t ∧ t = true := by
    refine loop_up (fun k s => k + 1 ≤ (a :: b :: r).length ∧ s.2 = ((k + 1 : Nat) : Int) ∧ ∀ e, (a :: b :: r)[k]? = some e → chainP p s.1 e ((a :: b :: r).drop (k + 1))) (a :: b :: r).length ?_ ⟨by simp, rfl, fun e he => by cases he; exact hc⟩
    rintro k ⟨o, i⟩ ⟨hk, hi, hch⟩
    simp only at hi hch
    subst hi
    generalize hL : a :: b :: r = L at *
    by_cases he : k + 1 = L.length
    ·have : decide (((k + 1 : Nat) : Int) < L.length) = false := by simp; omega
     exact .inl ⟨true, by simp only [g_plan_row_l2, this, cond_false], rfl⟩
    ·have hlt : k + 1 < L.length := by omega
     have : decide (((k + 1 : Nat) : Int) < L.length) = true := by simp; omega
     have ha : L[k]? = some (L[k]'(by omega)) := List.getElem?_eq_getElem _
     have hb : L[k + 1]? = some (L[k + 1]'hlt) := List.getElem?_eq_getElem _
     have e1 : wi64 (((k + 1 : Nat) : Int) - 1) = (k : Int) := by rw [wi64_id] <;> omega
     have := hch _ ha
     rw [List.drop_eq_getElem_cons hlt] at this
     obtain ⟨y, hn, hy, hrest⟩ := chainP_at this
     obtain ⟨f1, f2, _⟩ := hasP_fin (hv.join.next hn)
     have e2 : (y.elem != L[k + 1]'hlt) = false := by simp [hy]
     have hd : decide (((k + 1 : Nat) : Int) < L.length) = true := by simp; omega
     refine .inr ⟨by omega, (1 - y.fin, ((k + 1 + 1 : Nat) : Int)), ?_, by omega, rfl, fun e he' => ?_⟩
     ·simp only [g_plan_row_l2, hd, cond_true, e1, idx_nat, ha, hb, Option.bind_some, hm, hn, Option.isSome_some, Option.getD_some, Bool.not_true, cond_false, e2,
       wi64_succ (show k + 1 < 1000000000 by omega), wi64_id (n := 1 - y.fin) (by omega) (by omega)]
     ·rw [hb] at he'; cases he'; exact hrest
   exact ht
  rw [key]; rfl
theorem plan_lines_ok (p : Plan) (hv : Valid p) (m : List (Port × Port)) (hm : ∀ x, assoc m x = nextP p x) : g_plan_lines p m = some true := by
 have q1 := hv.few.elems; have q4 := hv.few.lines
 have nod := hv.line.once
 unfold g_plan_lines
 obtain ⟨b, hb, rfl⟩ := loop_st (l := p.lines) (step := g_plan_lines_l1 p m) (Post := fun b => b = true) (fun i c => ∀ x, (assoc c x).getD false = decide (x ∈ (p.lines.take i).flatMap (·.elems))) (fun c hI => ⟨true, by simp only [g_plan_lines_l1, dge, cond_false], rfl⟩) (fun i a c ha hI => by
   have := ilt ha
   have hl := hv.line.line i a ha
   have hal := (hv.few.line i a ha).1
   have h0 : ((a.elems.length : Int) == 0) = false := by rw [beq_eq_false_iff_ne]; have := hl.one; omega
   simp only [g_plan_lines_l1, dlt ha, cond_true, idx_nat, ha, Option.bind_some, h0, cond_false]
   have split : p.lines.flatMap (·.elems) = (p.lines.take i).flatMap (·.elems) ++ (a.elems ++ (p.lines.drop (i + 1)).flatMap (·.elems)) := by
    rw [← List.append_assoc, ← take_flat_succ ha, ← List.flatMap_append, List.take_append_drop]
   rw [split] at nod
   obtain ⟨r, hr, c', rfl, hc'⟩ : ∃ r, loopR (g_plan_lines_l2 p m ((i : Int), c) a) (0, c) = some r ∧ ∃ c', r = .inl (((i + 1 : Nat) : Int), c') ∧ ∀ x, (assoc c' x).getD false = decide (x ∈ (p.lines.take (i + 1)).flatMap (·.elems)) := by
    refine loop_st (l := a.elems) (fun k d => ∀ x, (assoc d x).getD false = decide (x ∈ (p.lines.take i).flatMap (·.elems) ++ a.elems.take k)) (fun d hd => ?_) (fun k e d he hd => ?_) (c := c) (fun x => by simpa using hI x)
    ·rw [List.take_length] at hd
     refine ⟨.inl (((i + 1 : Nat) : Int), d), ?_, d, rfl, fun x => by rw [hd, take_flat_succ ha]⟩
     simp only [g_plan_lines_l2, dge, cond_false, plan_row_ok p hv m hm a.elems hl hal, Option.bind_some, wi64_succ (show i < 1000000000 by omega)]; rfl
    ·have hk := ilt he
     have ht := hl.track k e he
     obtain ⟨el, hel⟩ : ∃ el, idx p.elems e = some el := by
      cases h : idx p.elems e with
      | none => simp [kindP, h] at ht
      | some el => exact ⟨el, rfl⟩
     obtain ⟨g1, g2⟩ := idx_len hel
     have hke : el.kind = 1 := by simpa [kindP, hel] using ht
     have hnew : ¬ e ∈ (p.lines.take i).flatMap (·.elems) ++ a.elems.take k := by
      intro hx
      rcases List.mem_append.1 hx with hx | hx
      ·exact (List.nodup_append.1 nod).2.2 e hx e (List.mem_append_left _ (List.mem_of_getElem? he)) rfl
      ·obtain ⟨j, hj, hje⟩ := mem_take hx
       have nd := (List.nodup_append.1 (List.nodup_append.1 nod).2.1).1
       have := (List.getElem?_inj (ilt hje) nd).1 (hje.trans he.symm)
       omega
     refine .inr ⟨aput e true d, ?_, fun x => ?_⟩
     ·simp only [g_plan_lines_l2, dlt he, cond_true, idx_nat, he, Option.bind_some, show ¬ e < 0 by omega, show ¬ (p.elems.length : Int) ≤ e by omega, decide_false, cond_false, hel, hke, hd, hnew, wi64_succ (show k < 1000000000 by omega)]
      rfl
     ·rw [assoc_aput', List.take_add_one, he]
      simp only [Option.toList_some, ← List.append_assoc]
      by_cases hx : x = e
      ·simp [hx]
      ·rw [if_neg hx, hd]; simp only [List.mem_append, List.mem_singleton, hx, or_false]
   exact .inr ⟨c', hr, hc'⟩) (c := []) (fun x => by simp [assoc])
 exact hb
theorem plan_long_ok (p : Plan) (hv : Valid p) : g_plan_long p = some true := by
 have q1 := hv.few.elems; have q3 := hv.few.signals; have q4 := hv.args.top; have q5 := hv.args.margin
 obtain ⟨n, hn, n1, n2⟩ := stop_total p.top p.brake
 have hs := hv.long.stop n hn
 have hn' : g_plan_Stop p.top p.brake = some n := hn
 unfold g_plan_long
 simp only [hn', Option.bind_some]
 rw [wi64_id (n := p.top + n) (by omega) (by omega)]
 have hd : decide (p.margin < p.top + n) = false := by simp; omega
 simp only [hd, cond_false]
 have e2 : loopR (g_plan_long_l2 p) 0 = some true := by
  obtain ⟨b, hb, rfl⟩ := loop_ix (l := p.elems) (step := g_plan_long_l2 p) (Post := fun b => b = true) (fun _ _ => True) (fun _ => ⟨true, by simp only [g_plan_long_l2, dge, cond_false], rfl⟩) (fun i e he _ => by
   have := ilt he
   refine .inr ⟨?_, trivial⟩
   simp only [g_plan_long_l2, dlt he, cond_true, idx_nat, he, Option.bind_some, cbne, wi64_succ (show i < 1000000000 by omega)]
   by_cases hk : e.kind = 4
   ·simp [hk]
   ·have := hv.long.elem i e he hk
    simp only [if_neg hk, show ¬ e.length < p.top by omega, decide_false]; rfl)
  exact hb
 obtain ⟨b, hb, rfl⟩ := loop_ix (l := p.signals) (step := g_plan_long_l1 p) (Post := fun b => b = true) (fun _ _ => True) (fun _ => ⟨true, by simp only [g_plan_long_l1, dge, cond_false, e2]; rfl, rfl⟩) (fun i s h _ => by
  have := ilt h
  obtain ⟨e, he, hke⟩ := hasP_idx (hv.sig.has i s h)
  have hle : lengthP p s.at_.elem = e.length := by simp [lengthP, he]
  refine .inr ⟨?_, trivial⟩
  simp only [g_plan_long_l1, dlt h, cond_true, idx_nat, h, Option.bind_some, cbeq, he, wi64_succ (show i < 1000000000 by omega)]
  by_cases hk : e.kind = 1
  ·have := hv.long.signal i s h (by rw [hke]; exact hk)
   rw [hle] at this
   simp only [if_pos hk, show ¬ e.length < p.margin by omega, decide_false]; rfl
  ·simp only [if_neg hk]; rfl)
 exact hb
theorem plan_check_ok (p : Plan) (hv : Valid p) : g_plan_Check p = some 0 := by
 have h1 := hv.ne; have h2 := hv.ns; have h3 := hv.nl; have h4 := hv.nj
 obtain ⟨m, hm, hn⟩ := plan_joined_ok p hv.few hv.join
 unfold g_plan_Check
 simp only [show ¬ (40 : Int) < p.elems.length by omega, show ¬ (24 : Int) < p.signals.length by omega, show ¬ (4 : Int) < p.lines.length by omega, show ¬ (80 : Int) < p.joins.length by omega, decide_false, cond_false, Option.bind_some,
  numbers_ok p hv.few hv.args, Bool.not_true, twice1 p hv.few hv.n1, twice2 p hv.few hv.n2, twice3 p hv.few hv.n3, hm, plan_signals_ok p hv m hn, plan_lines_ok p hv m hn, plan_long_ok p hv]
end Go.E
/- Plain Lean: the net that the program makes of a valid plan. No condition. -/
namespace Go.E
open Go
structure NetOf (p : Plan) (n : Net) : Prop where
 plan : n.p = p
 next : ∀ x, assoc n.next x = nextP p x
 reads : ∀ x, assoc n.reads x = if 0 ≤ readsP p x then some (readsP p x) else none
theorem clone_eq {α : Type} [DecidableEq α] (l : List α) (h : l.length ≤ 1000000) : nilS l (some []) ((appI ([] : List α) l).bind fun y => some y) = some l := by
 rw [appI_ok (by simp; omega)]
 cases l with
 | nil => simp [nilS, agree]
 | cons a l => rfl
theorem twin_eq (p : Plan) (hf : FewP p) : g_net_twin p = some p := by
 have q1 := hf.elems; have q2 := hf.joins; have q3 := hf.signals; have q4 := hf.lines
 have c1 : g_slices_Clone_apiElem p.elems = some p.elems := clone_eq _ (by omega)
 have c2 : g_slices_Clone_apiJoin p.joins = some p.joins := clone_eq _ (by omega)
 have c3 : g_slices_Clone_apiSignal p.signals = some p.signals := clone_eq _ (by omega)
 have c4 : g_slices_Clone_apiLine p.lines = some p.lines := clone_eq _ (by omega)
 unfold g_net_twin
 simp only [c1, c2, c3, c4, Option.bind_some]
 obtain ⟨b, hb, rfl⟩ := loop_st (l := p.lines) (step := g_net_twin_l1 p p.elems p.joins p.signals p.lines) (Post := fun b => b = p) (fun i c => c = p.lines) (fun c hc => by
   subst hc; exact ⟨p, by simp only [g_net_twin_l1, dge, cond_false], rfl⟩) (fun i a c ha hc => by
   subst hc
   have := ilt ha
   have hal := (hf.line i a ha).1
   have c5 : g_slices_Clone_int a.elems = some a.elems := clone_eq _ (by omega)
   refine .inr ⟨p.lines, ?_, rfl⟩
   simp only [g_net_twin_l1, dlt ha, cond_true, idx_nat, ha, Option.bind_some, c5, wi64_succ (show i < 1000000000 by omega)]
   have : setI p.lines (i : Int) (⟨a.name, a.elems⟩ : Line) = p.lines := by
    unfold setI
    apply List.ext_getElem?
    intro k
    rw [List.getElem?_set]
    split
    ·rename_i h; simp only [Int.toNat_natCast] at h; subst h; split
     ·exact ha.symm
     ·rename_i h2; simp at h2; omega
    ·rfl
   rw [this]) (c := p.lines) rfl
 exact hb
theorem readsF_app (x : Port) (s : Signal) : ∀ (l : List Signal) (i : Nat), readsF x i (l ++ [s]) = if 0 ≤ readsF x i l then readsF x i l else if s.at_ = x then ((i + l.length : Nat) : Int) else -1
 | [], i => by simp [readsF]
 | t :: l, i => by
  by_cases h : t.at_ = x
  ·simp [readsF, h]
  ·have e : ∀ r, readsF x i (t :: r) = readsF x (i + 1) r := fun r => by simp [readsF, h]
   simp only [List.cons_append, e, readsF_app x s l (i + 1), List.length_cons]
   rw [show i + 1 + l.length = i + (l.length + 1) by omega]
theorem new_lines (p y15 : Plan) (hf : FewP p) (s58 : Int × List (Port × Port)) (s140 : Int × List (Port × Int)) : ∃ a b, loopR (g_net_New_l3 p y15 s58 s140) (0, [], []) = some (some ⟨y15, s58.2, s140.2, a, b⟩, 0) := by
 have q4 := hf.lines
 obtain ⟨r, hr, a, b, rfl⟩ : ∃ r, loopR (g_net_New_l3 p y15 s58 s140) (0, [], []) = some r ∧ ∃ a b, r = (some ⟨y15, s58.2, s140.2, a, b⟩, 0) := by
  refine loop_st (l := p.lines) (fun _ _ => True) (fun c _ => ⟨_, by simp only [g_net_New_l3, dge, cond_false], c.1, c.2, rfl⟩) (fun i l c h _ => ?_) (c := (([], []) : List (Int × Arr2Int) × List (Int × Int))) trivial
  have := ilt h
  have hal := (hf.line i l h).1
  obtain ⟨t, ht⟩ : ∃ t : Int, ((bif decide (1 < (l.elems.length : Int)) then (idx l.elems 0).bind fun y1186 => ((bif (assoc s58.2 (⟨y1186, 0⟩ : Port)).isSome then (idx l.elems 1).bind fun y1195 => some ((((assoc s58.2 (⟨y1186, 0⟩ : Port)).getD (⟨0, 0⟩ : Port)).elem) == y1195) else some false : Option (Bool))).bind fun (t1192 : Bool) => bif t1192 then some 1 else some 0 else some 0 : Option (Int))) = some t := by
   match hl : l.elems with
   | [] => exact ⟨0, by simp⟩
   | [a] => exact ⟨0, by simp⟩
   | a :: b :: r =>
    have hd : decide (1 < ((a :: b :: r).length : Int)) = true := by simp; omega
    have i0 : idx (a :: b :: r) 0 = some a := rfl
    have i1 : idx (a :: b :: r) 1 = some b := rfl
    simp only [hd, cond_true, i0, i1, Option.bind_some]
    cases (assoc s58.2 (⟨a, 0⟩ : Port)).isSome with
    | false => exact ⟨0, rfl⟩
    | true =>
     simp only [cond_true, Option.bind_some]
     cases ((assoc s58.2 (⟨a, 0⟩ : Port)).getD (⟨0, 0⟩ : Port)).elem == b with
     | false => exact ⟨0, rfl⟩
     | true => exact ⟨1, rfl⟩
  refine .inr ?_
  simp only [g_net_New_l3, dlt h, cond_true, idx_nat, h, Option.bind_some, ht]
  obtain ⟨r, hr, c', rfl⟩ : ∃ r, loopR (g_net_New_l4 s58 ((i : Int), c) l) (t, 0, c.1, c.2) = some r ∧ ∃ c', r = .inl (((i + 1 : Nat) : Int), c') := by
   refine loop_up (fun k s => s.2.1 = (k : Int) ∧ k ≤ l.elems.length) l.elems.length ?_ ⟨rfl, Nat.zero_le _⟩
   rintro k ⟨x, j, d1, d2⟩ ⟨hj, hk⟩
   simp only at hj
   subst hj
   by_cases he : k = l.elems.length
   ·subst he
    exact .inl ⟨.inl (((i + 1 : Nat) : Int), d1, d2), by simp only [g_net_New_l4, dge, cond_false, wi64_succ (show i < 1000000000 by omega)], (d1, d2), rfl⟩
   ·have ha : l.elems[k]? = some (l.elems[k]'(by omega)) := List.getElem?_eq_getElem _
    exact .inr ⟨by omega, (((assoc s58.2 (⟨l.elems[k]'(by omega), wi64 (1 - x)⟩ : Port)).getD (⟨0, 0⟩ : Port)).fin, ((k + 1 : Nat) : Int), aput (l.elems[k]'(by omega)) (⟨(i : Int), (k : Int)⟩ : Arr2Int) d1, aput (l.elems[k]'(by omega)) x d2), by simp only [g_net_New_l4, dlt ha, cond_true, idx_nat, ha, Option.bind_some, wi64_succ (show k < 1000000000 by omega)], rfl, by omega⟩
  exact ⟨c', hr, trivial⟩
 exact ⟨a, b, hr⟩
theorem new_ok (p : Plan) (hv : Valid p) : ∃ n, g_net_New p = some (some n, 0) ∧ NetOf p n := by
 have q2 := hv.few.joins; have q3 := hv.few.signals
 unfold g_net_New
 simp only [plan_check_ok p hv, Option.bind_some, bne_self_eq_false, cond_false, twin_eq p hv.few]
 have l2 : ∀ s58 : Int × List (Port × Port), (∀ x, assoc s58.2 x = nextP p x) → ∃ r, loopR (g_net_New_l2 p p s58) (0, []) = some r ∧ ∃ n, r = (some n, 0) ∧ NetOf p n := by
  intro s58 hs
  refine loop_st (l := p.signals) (fun i c => ∀ x, assoc c x = if 0 ≤ readsF x 0 (p.signals.take i) then some (readsF x 0 (p.signals.take i)) else none) (fun c hI => ?_) (fun i s c h hI => ?_) (c := []) (fun x => by simp [assoc, readsF])
  ·rw [List.take_length] at hI
   obtain ⟨a, b, hr⟩ := new_lines p p hv.few s58 ((p.signals.length : Int), c)
   exact ⟨_, by simp only [g_net_New_l2, dge, cond_false, hr]; rfl, _, rfl, ⟨rfl, hs, hI⟩⟩
  ·have := ilt h
   refine .inr ⟨aput s.at_ (i : Int) c, by simp only [g_net_New_l2, dlt h, cond_true, idx_nat, h, Option.bind_some, wi64_succ (show i < 1000000000 by omega)], fun x => ?_⟩
   have hlen : (p.signals.take i).length = i := by rw [List.length_take]; omega
   rw [assoc_aput', List.take_add_one, h]
   simp only [Option.toList_some, readsF_app, hI, hlen]
   by_cases hx : x = s.at_
   ·subst hx
    have hr := hv.sig.reads i s h
    have hnot : ¬ 0 ≤ readsF s.at_ 0 (p.signals.take i) := by
     intro h0
     rcases readsF_spec s.at_ (p.signals.take i) 0 with ⟨h1, _⟩ | ⟨k, t, h1, h2, _, _⟩
     ·omega
     ·obtain ⟨j, hj, hjt⟩ := mem_take (List.mem_of_getElem? h1)
      have := hv.sig.reads j t hjt
      rw [h2, hr] at this
      omega
    rw [if_pos rfl, if_neg hnot, if_pos rfl, if_pos (by omega)]
    simp
   ·have hx' : ¬ s.at_ = x := fun e => hx e.symm
    by_cases h0 : 0 ≤ readsF x 0 (p.signals.take i)
    ·simp only [if_neg hx, if_pos h0]
    ·simp only [if_neg hx, if_neg h0, if_neg hx']; rfl
 obtain ⟨r, hr, n, rfl, hn⟩ : ∃ r, loopR (g_net_New_l1 p p) (0, []) = some r ∧ ∃ n, r = (some n, 0) ∧ NetOf p n := by
  refine loop_st (l := p.joins) (fun i c => ∀ x, assoc c x = nextL (p.joins.take i) x) (fun c hI => ?_) (fun i j c h hI => ?_) (c := []) (fun x => by simp [assoc, nextL])
  ·rw [List.take_length] at hI
   obtain ⟨r, hr, h⟩ := l2 ((p.joins.length : Int), c) hI
   exact ⟨r, by simp only [g_net_New_l1, dge, cond_false, hr]; rfl, h⟩
  ·have := ilt h
   exact .inr ⟨_, by simp only [g_net_New_l1, dlt h, cond_true, idx_nat, h, Option.bind_some, wi64_succ (show i < 1000000000 by omega)], next_step hv.join h hI⟩
 exact ⟨n, hr, hn⟩
theorem made_total (p : Plan) : ∃ o, g_L4_Made p = some o ∧ (g_R6_Fine p = some true → ∃ n, o = some n ∧ NetOf p n) := by
 obtain ⟨b, hb, hv⟩ := fine_total p
 unfold g_L4_Made
 simp only [hb, Option.bind_some]
 cases b with
 | false => exact ⟨none, rfl, fun h => by simp at h⟩
 | true =>
  obtain ⟨n, hn, ho⟩ := new_ok p (hv rfl)
  simp only [hn, Option.bind_some, Bool.not_true, cond_false]
  exact ⟨some n, rfl, fun _ => ⟨n, rfl, ho⟩⟩
end Go.E
/- Plain Lean: sorted rows without repetition. No condition. -/
namespace Go.E
open Go
end Go.E
/- Plain Lean: what a net says is what the plan says. No condition. -/
namespace Go.E
open Go
theorem g_R6_Kind_eq (p : Plan) (e : Int) : g_R6_Kind p e = some (kindP p e) := by
 unfold g_R6_Kind; rw [g_R6_kind_eq]; rfl
section
variable {p : Plan} {n : Net}
theorem net_elem (h : NetOf p n) (e : Int) : g_net_Net_elem n e = some ((idx p.elems e).getD ⟨ByteArray.empty, 0, 0⟩) := by
 unfold g_net_Net_elem
 rw [h.plan]
 by_cases h1 : e < 0
 ·simp [h1, idx_none (.inl h1)]
 ·by_cases h2 : (p.elems.length : Int) ≤ e
  ·simp [h1, h2, idx_none (.inr h2)]
  ·obtain ⟨a, ha⟩ := idx_of (l := p.elems) (n := e) (by omega) (by omega)
   simp [h1, h2, ha]
theorem net_Kind (h : NetOf p n) (e : Int) : g_net_Net_Kind n e = some (kindP p e) := by
 unfold g_net_Net_Kind kindP
 rw [net_elem h]
 cases idx p.elems e <;> rfl
theorem net_Next (h : NetOf p n) (x : Port) : g_net_Net_Next n x = some ((nextP p x).getD ⟨0, 0⟩, (nextP p x).isSome) := by
 unfold g_net_Net_Next; rw [h.next]
theorem readsP_cases (p : Plan) (x : Port) : readsP p x = -1 ∨ (0 ≤ readsP p x ∧ readsP p x < p.signals.length) := by
 rcases readsF_spec x p.signals 0 with ⟨h, _⟩ | ⟨k, s, h1, _, h3, _⟩
 ·exact .inl h
 ·have := ilt h1
  right
  unfold readsP
  rw [h3]; omega
theorem net_Reads (h : NetOf p n) (x : Port) : g_net_Net_Reads n x = some (readsP p x) := by
 unfold g_net_Net_Reads
 rw [h.reads]
 rcases readsP_cases p x with h1 | ⟨h1, _⟩
 ·rw [if_neg (by omega), h1]; rfl
 ·rw [if_pos h1]; rfl
def outsP (p : Plan) (e i : Int) : List Way :=
 if hasP p ⟨e, i⟩ then if kindP p e = 1 then [⟨1 - i, 0⟩] else if kindP p e = 3 then [⟨if i = 0 then 1 else if i = 1 then 0 else if i = 2 then 3 else 2, 0⟩] else if kindP p e = 2 then if i = 0 then [⟨1, 1⟩, ⟨2, 2⟩] else [⟨0, i⟩] else [] else []
theorem R6_Outs_eq (p : Plan) (e i : Int) : g_R6_Outs p e i = some (outsP p e i) := by
 unfold g_R6_Outs outsP
 simp only [g_R6_has_eq, Option.bind_some, g_R6_kind_eq, cbeq]
 cases hh : hasP p ⟨e, i⟩ with
 | false => rfl
 | true =>
  obtain ⟨h1, h2, h3⟩ := hasP_fin hh
  simp only at h1 h2 h3
  simp only [Bool.not_true, cond_false, if_true]
  by_cases k1 : kindP p e = 1
  ·simp only [if_pos k1, wi64_id (n := 1 - i) (by omega) (by omega)]
  ·by_cases k3 : kindP p e = 3
   ·simp only [if_neg k1, if_pos k3]
    have : i = 0 ∨ i = 1 ∨ i = 2 ∨ i = 3 := by omega
    rcases this with rfl | rfl | rfl | rfl <;> rfl
   ·by_cases k2 : kindP p e = 2
    ·simp only [if_neg k1, if_neg k3, if_pos k2]
     by_cases i0 : i = 0 <;> simp [i0]
    ·simp only [if_neg k1, if_neg k3, if_neg k2]
theorem net_Outs (h : NetOf p n) (e i : Int) : g_net_Net_Outs n e i = some (outsP p e i) := by
 unfold g_net_Net_Outs outsP
 simp only [net_Kind h, Option.bind_some, g_plan_Ends_eq, cbeq]
 by_cases h0 : i < 0
 ·have : hasP p ⟨e, i⟩ = false := by simp [hasP]; omega
  simp [h0, this]
 ·by_cases h1 : endsF (kindP p e) ≤ i
  ·have : hasP p ⟨e, i⟩ = false := by simp [hasP]; omega
   simp [h0, h1, this]
  ·have hh : hasP p ⟨e, i⟩ = true := by simp [hasP]; omega
   obtain ⟨_, h2, h3⟩ := hasP_fin hh
   simp only at h2 h3
   simp only [h0, h1, decide_false, cond_false, Option.bind_some, hh, if_true]
   by_cases k1 : kindP p e = 1
   ·simp only [if_pos k1, wi64_id (n := 1 - i) (by omega) (by omega)]
   ·by_cases k3 : kindP p e = 3
    ·simp only [if_neg k1, if_pos k3]
     have : i = 0 ∨ i = 1 ∨ i = 2 ∨ i = 3 := by omega
     rcases this with rfl | rfl | rfl | rfl <;> rfl
    ·by_cases k2 : kindP p e = 2
     ·simp only [if_neg k1, if_neg k3, if_pos k2]
      rw [k2] at h3
      have : i = 0 ∨ i = 1 ∨ i = 2 := by simp [endsF] at h3; omega
      rcases this with rfl | rfl | rfl <;> rfl
     ·simp only [if_neg k1, if_neg k3, if_neg k2]
def throughL : List Way → Int → Option Int
 | [], _ => none
 | w :: r, x => if w.pos = 0 ∨ w.pos = x then some w.out else throughL r x
def throughP (p : Plan) (e i x : Int) : Option Int := throughL (outsP p e i) x
theorem outsP_len (p : Plan) (e i : Int) : (outsP p e i).length ≤ 2 := by
 unfold outsP
 repeat' split
 all_goals simp
theorem net_Through (h : NetOf p n) (e i x : Int) : g_net_Net_Through n e i x = some ((throughP p e i x).getD 0, (throughP p e i x).isSome) := by
 unfold g_net_Net_Through throughP
 rw [net_Outs h]
 simp only [Option.bind_some]
 have hl := outsP_len p e i
 refine loop_list (γ := Unit) (outsP p e i) (fun k _ => (k : Int)) (fun _ _ r => some ((throughL r x).getD 0, (throughL r x).isSome)) (fun _ => ?_) (fun k _ a r ha hi => ?_) ()
 ·simp [g_net_Net_Through_l1, throughL]
 ·simp only [g_net_Net_Through_l1, idx_nat, ha, Option.bind_some, dlt ha, cond_true, throughL, cbeq]
  by_cases h1 : a.pos = 0
  ·left; simp [h1]
  ·by_cases h2 : a.pos = x
   ·left
    simp [h1, h2]
   ·right
    have : (a.pos == x) = false := beq_eq_false_iff_ne.2 h2
    exact ⟨(), by simp [h1, this, wi64_succ (show k < 1000000000 by omega)], by simp [h1, h2]⟩
end
end Go.E
/- Plain Lean: RoadFinds answers true, for every argument. No condition. -/
namespace Go.E
open Go
end Go.E
/- Plain Lean: the roads of a signal: the document's search and the program's are one. No condition. -/
namespace Go.E
open Go
def mkR (s to fin : Int) (st : List Step) (nd : List Need) : Road := ⟨s, to, fin, st, nd, [], [], [], false⟩
def addN (nd : List Need) (e pos : Int) : List Need := if pos = 0 then nd else nd ++ [⟨e, pos⟩]
def onF (p : Plan) (s : Int) : Nat → List Step → List Need → Port → List Int → List Road
 | 0, _, _, _, _ => []
 | k + 1, st, nd, x, met => if x.elem ∈ met ∨ st.length = 12 then [] else if kindP p x.elem = 4 then [mkR s (-1) 2 (st ++ [⟨x.elem, x.fin, -1⟩]) nd] else
  (outsP p x.elem x.fin).flatMap fun w => if 0 ≤ readsP p ⟨x.elem, w.out⟩ then [mkR s (readsP p ⟨x.elem, w.out⟩) 1 (st ++ [⟨x.elem, x.fin, w.out⟩]) (addN nd x.elem w.pos)] else match nextP p ⟨x.elem, w.out⟩ with
   | none => [mkR s (-1) 3 (st ++ [⟨x.elem, x.fin, w.out⟩]) (addN nd x.elem w.pos)]
   | some y => onF p s k (st ++ [⟨x.elem, x.fin, w.out⟩]) (addN nd x.elem w.pos) y (met ++ [x.elem])
def wayR (p : Plan) (s : Int) (k : Nat) (st : List Step) (nd : List Need) (x : Port) (met : List Int) (w : Way) : List Road :=
 if 0 ≤ readsP p ⟨x.elem, w.out⟩ then [mkR s (readsP p ⟨x.elem, w.out⟩) 1 (st ++ [⟨x.elem, x.fin, w.out⟩]) (addN nd x.elem w.pos)] else match nextP p ⟨x.elem, w.out⟩ with
  | none => [mkR s (-1) 3 (st ++ [⟨x.elem, x.fin, w.out⟩]) (addN nd x.elem w.pos)]
  | some y => onF p s k (st ++ [⟨x.elem, x.fin, w.out⟩]) (addN nd x.elem w.pos) y (met ++ [x.elem])
theorem onF_succ (p : Plan) (s : Int) (k : Nat) (st : List Step) (nd : List Need) (x : Port) (met : List Int) :
  onF p s (k + 1) st nd x met = if x.elem ∈ met ∨ st.length = 12 then [] else if kindP p x.elem = 4 then [mkR s (-1) 2 (st ++ [⟨x.elem, x.fin, -1⟩]) nd] else (outsP p x.elem x.fin).flatMap (wayR p s k st nd x met) := rfl
theorem wayR_len (p : Plan) (s : Int) (k : Nat) (st : List Step) (nd : List Need) (x : Port) (met : List Int) (w : Way) (ih : ∀ st nd x met, (onF p s k st nd x met).length ≤ 2 ^ k) : (wayR p s k st nd x met w).length ≤ 2 ^ k := by
 have h1 : 1 ≤ 2 ^ k := Nat.one_le_two_pow
 unfold wayR
 split
 ·simp; omega
 ·split
  ·simp; omega
  ·exact ih _ _ _ _
theorem flat_lenB {α β : Type} (f : α → List β) (b : Nat) : ∀ l : List α, (∀ a ∈ l, (f a).length ≤ b) → (l.flatMap f).length ≤ l.length * b
 | [], _ => by simp
 | a :: l, h => by
  have h1 := h a (by simp)
  have h2 := flat_lenB f b l fun x hx => h x (by simp [hx])
  simp only [List.flatMap_cons, List.length_append, List.length_cons, Nat.add_mul]
  omega
theorem onF_len (p : Plan) (s : Int) : ∀ (k : Nat) (st : List Step) (nd : List Need) (x : Port) (met : List Int), (onF p s k st nd x met).length ≤ 2 ^ k
 | 0, _, _, _, _ => by simp [onF]
 | k + 1, st, nd, x, met => by
  have h1 : 1 ≤ 2 ^ (k + 1) := Nat.one_le_two_pow
  rw [onF_succ]
  split
  ·simp
  ·split
   ·simp; omega
   ·have h2 := flat_lenB (wayR p s k st nd x met) (2 ^ k) (outsP p x.elem x.fin) fun w _ => wayR_len p s k st nd x met w (onF_len p s k)
    have h3 := outsP_len p x.elem x.fin
    have h4 : (outsP p x.elem x.fin).length * 2 ^ k ≤ 2 * 2 ^ k := Nat.mul_le_mul_right _ h3
    rw [Nat.pow_succ]; omega
theorem In_eq (l : List Int) (hl : l.length < 1000000) (x : Int) : g_R6_In l x = some (decide (x ∈ l)) := by
 unfold g_R6_In
 obtain ⟨b, h1, h2⟩ := loop_ix (l := l) (step := g_R6_In_l1 l x) (Post := fun b => b = decide (x ∈ l)) (fun _ y => y ≠ x) (fun good => ⟨false, by simp [g_R6_In_l1], by
   symm; rw [decide_eq_false_iff_not]; intro hm
   obtain ⟨i, hi⟩ := List.getElem?_of_mem hm
   exact good i x hi rfl⟩) (fun i a ha _ => by
   have := ilt ha
   by_cases e : a = x
   ·exact .inl ⟨true, by simp only [g_R6_In_l1, dlt ha, cond_true, idx_nat, ha, Option.bind_some, e, beq_self_eq_true], by symm; rw [decide_eq_true_iff]; subst e; exact List.mem_of_getElem? ha⟩
   ·have : (a == x) = false := beq_eq_false_iff_ne.2 e
    exact .inr ⟨by simp only [g_R6_In_l1, dlt ha, cond_true, idx_nat, ha, Option.bind_some, this, cond_false, wi64_succ (show i < 1000000000 by omega)], e⟩)
 rw [h1, h2]
theorem with_eq (r : Road) (s : Step) (pos fin to : Int) (h1 : r.steps.length ≤ 100) (h2 : r.needs.length ≤ 100) : g_R12_with r s pos fin to = some (mkR r.frm to fin (r.steps ++ [s]) (addN r.needs s.elem pos)) := by
 unfold g_R12_with
 rw [appI_ok (by simp; omega)]
 simp only [Option.bind_some, List.nil_append]
 rw [appI_ok (by simp; omega)]
 simp only [Option.bind_some]
 rw [appI_ok (by simp; omega)]
 simp only [Option.bind_some, List.nil_append, cbne]
 unfold addN mkR
 by_cases e : pos = 0
 ·simp [e]
 ·simp only [if_neg e]
  rw [appI_ok (by simp; omega)]
  simp
theorem addN_len (nd : List Need) (e pos : Int) : (addN nd e pos).length ≤ nd.length + 1 := by
 unfold addN; split <;> simp
noncomputable def onG (m : Nat) : Plan × Road × Port × List Int → Option (List Road) := recF (fun rc a => g_R12_on_b rc a.1 a.2.1 a.2.2.1 a.2.2.2) m
theorem on_eq {p : Plan} (hf : FewP p) (s : Int) : ∀ (k m : Nat) (to fin : Int) (st : List Step) (nd : List Need) (x : Port) (met : List Int), k ≤ m → st.length + k = 13 → nd.length ≤ st.length → met.length ≤ st.length + 1 → 1 ≤ k →
  onG m (p, (⟨s, to, fin, st, nd, [], [], [], false⟩ : Road), x, met) = some (onF p s k st nd x met)
 | 0, _, _, _, _, _, _, _, _, _, _, _, h => by omega
 | k + 1, 0, _, _, _, _, _, _, h, _, _, _, _ => by omega
 | k + 1, m + 1, to, fin, st, nd, x, met, hkm, hst, hnd, hmet, _ => by
  have hpow : 2 ^ k ≤ 2 ^ 12 := Nat.pow_le_pow_right (by decide) (by omega)
  show g_R12_on_b (onG m) p ⟨s, to, fin, st, nd, [], [], [], false⟩ x met = _
  unfold g_R12_on_b
  rw [In_eq met (by omega) x.elem, onF_succ]
  simp only [Option.bind_some]
  by_cases hm : x.elem ∈ met
  ·simp [hm]
  ·simp only [hm, decide_false, cond_false, false_or, Option.bind_some]
   by_cases hl : st.length = 12
   ·have : (((st.length : Nat) : Int) == 12) = true := by rw [beq_iff_eq]; omega
    simp only [this, cond_true, if_pos hl]
   ·have : (((st.length : Nat) : Int) == 12) = false := by rw [beq_eq_false_iff_ne]; omega
    simp only [this, cond_false, if_neg hl]
    rw [appI_ok (by simp; omega)]
    simp only [Option.bind_some, List.nil_append]
    rw [appI_ok (by simp; omega)]
    simp only [Option.bind_some, g_R6_Kind_eq, cbeq]
    by_cases hk : kindP p x.elem = 4
    ·simp only [if_pos hk, with_eq (⟨s, to, fin, st, nd, [], [], [], false⟩ : Road) ⟨x.elem, x.fin, -1⟩ 0 2 (-1) (by simp only; omega) (by simp only; omega), Option.bind_some, addN, if_true]
    ·simp only [if_neg hk, R6_Outs_eq, Option.bind_some]
     have hol := outsP_len p x.elem x.fin
     have wl : ∀ w, (wayR p s k st nd x met w).length ≤ 2 ^ k := fun w => wayR_len p s k st nd x met w (onF_len p s k)
     obtain ⟨b, h1, h2⟩ := loop_st (l := outsP p x.elem x.fin) (step := g_R12_on_b_l1 p ⟨s, to, fin, st, nd, [], [], [], false⟩ x (onG m) (met ++ [x.elem]) (outsP p x.elem x.fin))
      (Post := fun b => b = (outsP p x.elem x.fin).flatMap (wayR p s k st nd x met)) (fun i o => o = ((outsP p x.elem x.fin).take i).flatMap (wayR p s k st nd x met)) (c := [])
      (fun o ho => ⟨o, by simp [g_R12_on_b_l1], by rw [ho, List.take_length]⟩)
      (fun i w o hw ho => by
       have hi := ilt hw
       have hol2 : o.length ≤ 2 * 2 ^ k := by
        rw [ho]
        have h5 := flat_lenB (wayR p s k st nd x met) (2 ^ k) ((outsP p x.elem x.fin).take i) fun w _ => wl w
        have h6 : ((outsP p x.elem x.fin).take i).length * 2 ^ k ≤ 2 * 2 ^ k := Nat.mul_le_mul_right _ (by rw [List.length_take]; omega)
        omega
       have hw2 := wl w
       refine .inr ⟨o ++ wayR p s k st nd x met w, ?_, by rw [ho, List.take_add_one, hw]; simp⟩
       have hb : o.length + (wayR p s k st nd x met w).length ≤ 4294967296 := by omega
       simp only [g_R12_on_b_l1, dlt hw, cond_true, idx_nat, hw, Option.bind_some, g_R6_Reads_eq p (show p.signals.length < 1000000 by have := hf.signals; omega)]
       unfold wayR at hb ⊢
       by_cases hr : 0 ≤ readsP p ⟨x.elem, w.out⟩
       ·rw [if_pos hr] at hb ⊢
        simp only [hr, decide_true, cond_true, with_eq (⟨s, to, fin, st, nd, [], [], [], false⟩ : Road) ⟨x.elem, x.fin, w.out⟩ w.pos 1 (readsP p ⟨x.elem, w.out⟩) (by simp only; omega) (by simp only; omega), Option.bind_some]
        rw [appI_ok hb]
        simp only [Option.bind_some, wi64_succ (show i < 1000000000 by omega)]
       ·rw [if_neg hr] at hb ⊢
        simp only [hr, decide_false, cond_false, g_R6_Next_eq p (by have := hf.joins; omega), Option.bind_some]
        cases hnx : nextP p ⟨x.elem, w.out⟩ with
        | none =>
         rw [hnx] at hb
         simp only [Option.isSome_none, Bool.not_false, cond_true, with_eq (⟨s, to, fin, st, nd, [], [], [], false⟩ : Road) ⟨x.elem, x.fin, w.out⟩ w.pos 3 (-1) (by simp only; omega) (by simp only; omega), Option.bind_some]
         rw [appI_ok hb]
         simp only [Option.bind_some, wi64_succ (show i < 1000000000 by omega)]
        | some y =>
         rw [hnx] at hb
         simp only at hb
         have hal := addN_len nd x.elem w.pos
         have hrec := on_eq hf s k m (-1) 0 (st ++ [⟨x.elem, x.fin, w.out⟩]) (addN nd x.elem w.pos) y (met ++ [x.elem]) (by omega) (by simp; omega) (by simp; omega) (by simp; omega) (by omega)
         simp only [Option.isSome_some, Option.getD_some, Bool.not_true, cond_false, with_eq (⟨s, to, fin, st, nd, [], [], [], false⟩ : Road) ⟨x.elem, x.fin, w.out⟩ w.pos 0 (-1) (by simp only; omega) (by simp only; omega), Option.bind_some]
         unfold mkR
         rw [hrec]
         simp only [Option.bind_some]
         rw [appI_ok hb]
         simp only [Option.bind_some, wi64_succ (show i < 1000000000 by omega)])
      (by simp)
     rw [show (0 : Int) = ((0 : Nat) : Int) from rfl] at *
     rw [h1, h2]
def ofF (p : Plan) (s : Int) : List Road := match idx p.signals s with
 | none => []
 | some a => match nextP p a.at_ with
  | none => []
  | some y => onF p s 13 [] [] y [a.at_.elem]
theorem At_eq (p : Plan) (s : Int) : g_R6_At p s = some (match idx p.signals s with | none => (⟨0, 0⟩, false) | some a => (a.at_, true)) := by
 unfold g_R6_At
 by_cases h1 : s < 0
 ·simp [h1, idx_none (.inl h1)]
 ·by_cases h2 : (p.signals.length : Int) ≤ s
  ·simp [h1, h2, idx_none (.inr h2)]
  ·obtain ⟨a, ha⟩ := idx_of (l := p.signals) (n := s) (by omega) (by omega)
   simp [h1, h2, ha]
theorem Of_eq {p : Plan} (hf : FewP p) (s : Int) : g_R12_Of p s = some (ofF p s) := by
 unfold g_R12_Of ofF
 rw [At_eq]
 cases idx p.signals s with
 | none => rfl
 | some a =>
  simp only [Option.bind_some, Bool.not_true, cond_false, g_R6_Next_eq p (by have := hf.joins; omega)]
  cases nextP p a.at_ with
  | none => rfl
  | some y =>
   have := on_eq hf s 13 1000 0 0 [] [] y [a.at_.elem] (by omega) rfl (by simp) (by simp) (by omega)
   simp only [Option.isSome_some, Option.getD_some, Bool.not_true, cond_false]
   show (onG 1000 _).bind _ = _
   rw [this]; rfl
end Go.E
/- Plain Lean: the program's search for roads gives what the document's does. No condition. -/
namespace Go.E
open Go
section
variable {p : Plan} {n : Net}
theorem wl_snoc {α : Type} (l : List α) (x : α) (hl : l.length < 1000000) : wi64 (((l ++ [x]).length : Int) - 1) = (l.length : Int) := by
 have : (((l ++ [x]).length : Int) - 1) = (l.length : Int) := by simp
 rw [this, wi64_id] <;> omega
theorem idx_sn {α : Type} {l : List α} {m : Nat} (x : α) (h : l.length = m) : idx (l ++ [x]) (m : Int) = some x := by
 rw [idx_nat]; subst h; simp
theorem slO_nil {α : Type} {l : List α} (h : l ≠ []) (a b : Int) : slO l a b = slI l a b := by
 cases l with
 | nil => exact absurd rfl h
 | cons x l => rfl
theorem slO_at {α : Type} {l : List α} {m : Nat} (x : α) (h : l.length = m) : slO (l ++ [x]) 0 (m : Int) = some l := by
 subst h
 rw [slO_nil (by simp)]
 unfold slI
 rw [if_pos ⟨by omega, by omega, by simp; omega⟩]; simp
end
end Go.E
/- Plain Lean: whether something is a road: the program's answer and the document's are one. No condition. -/
namespace Go.E
open Go
theorem index_loop {α : Type} {l : List α} {f : α → Bool} (hl : l.length < 1000000) {step : Int → Option (Int ⊕ Int)}
  (h0 : step (l.length : Int) = some (.inr (-1))) (h : ∀ (i : Nat) a, l[i]? = some a → step (i : Int) = if f a = true then some (.inr (i : Int)) else some (.inl ((i + 1 : Nat) : Int))) :
  ∃ t, loopR step 0 = some t ∧ ((t = -1 ∧ l.find? f = none) ∨ ∃ a, 0 ≤ t ∧ l.find? f = some a ∧ idx l t = some a) := by
 have key : ∀ (r : List α) (i : Nat), l.drop i = r → i ≤ l.length → ∃ t, loopR step (i : Int) = some t ∧ ((t = -1 ∧ r.find? f = none) ∨ ∃ a, 0 ≤ t ∧ r.find? f = some a ∧ idx l t = some a) := by
  intro r
  induction r with
  | nil =>
   intro i hd hi
   have : i = l.length := by have := congrArg List.length hd; simp at this; omega
   subst this
   exact ⟨-1, loopR_inr h0, .inl ⟨rfl, rfl⟩⟩
  | cons a r ih =>
   intro i hd hi
   have hlt : i < l.length := by have := congrArg List.length hd; simp at this; omega
   have ha : l[i]? = some a := by
    have : (l.drop i)[0]? = some a := by rw [hd]; rfl
    simpa using this
   have hr : l.drop (i + 1) = r := by
    have : (l.drop i).drop 1 = r := by rw [hd]; rfl
    rwa [List.drop_drop] at this
   by_cases c : f a = true
   ·exact ⟨i, loopR_inr (by rw [h i a ha, if_pos c]), .inr ⟨a, by omega, by simp [c], by rw [idx_nat, ha]⟩⟩
   ·obtain ⟨t, h1, h2⟩ := ih (i + 1) hr (by omega)
    refine ⟨t, by rw [loopR_inl (by rw [h i a ha, if_neg c]), h1], ?_⟩
    simpa [List.find?_cons, c] using h2
 exact key l 0 rfl (Nat.zero_le _)
def wayF (l : List Way) (o : Int) : Option Way := l.find? fun w => w.out == o
def stepsF (p : Plan) (a : Int) : Option Port → List Step → List Need → List Step → Option (List Need)
 | _, _, nd, [] => some nd
 | none, _, _, _ :: _ => none
 | some x, pv, nd, s :: r => if s.elem ≠ x.elem ∨ s.in_ ≠ x.fin ∨ s.elem = a ∨ s.elem ∈ pv.map (·.elem) then none else if kindP p s.elem = 4 then (if r = [] ∧ s.out = -1 then some nd else none) else match wayF (outsP p s.elem s.in_) s.out with
  | none => none
  | some w => if r ≠ [] ∧ 0 ≤ readsP p ⟨s.elem, s.out⟩ then none else stepsF p a (nextP p ⟨s.elem, s.out⟩) (pv ++ [s]) (addN nd s.elem w.pos) r
def tailF (p : Plan) (fin to : Int) (l : Step) : Bool :=
 if kindP p l.elem = 4 then decide (fin = 2 ∧ to = -1) else if 0 ≤ readsP p ⟨l.elem, l.out⟩ then decide (fin = 1 ∧ to = readsP p ⟨l.elem, l.out⟩) else (nextP p ⟨l.elem, l.out⟩).isNone && decide (fin = 3 ∧ to = -1)
def isF (p : Plan) (r : Road) : Bool := match idx p.signals r.frm with
 | none => false
 | some sg => if r.steps.length < 1 ∨ 12 < r.steps.length then false else match stepsF p sg.at_.elem (nextP p sg.at_) [] [] r.steps with
  | none => false
  | some nd => match r.steps.getLast? with
   | none => false
   | some l => tailF p r.fin r.to l && decide (r.needs = nd)
theorem stepsF_len {p : Plan} {a : Int} : ∀ {r : List Step} {x : Option Port} {pv : List Step} {nd nd' : List Need}, stepsF p a x pv nd r = some nd' → nd'.length ≤ nd.length + r.length
 | [], x, pv, nd, nd', h => by
  have : nd = nd' := by cases x <;> simpa [stepsF] using h
  subst this; simp
 | s :: r, none, pv, nd, nd', h => by simp [stepsF] at h
 | s :: r, some x, pv, nd, nd', h => by
  unfold stepsF at h
  split at h
  ·cases h
  ·split at h
   ·split at h
    ·cases h; simp
    ·cases h
   ·split at h
    ·cases h
    ·split at h
     ·cases h
     ·have h1 := stepsF_len h
      rename_i w _ _
      have h2 := addN_len nd s.elem w.pos
      simp only [List.length_cons]; omega
section
variable {p : Plan} {n : Net}
end
end Go.E
/- Plain Lean: whether something is a road, as the document says; the roads of a signal are roads, and none is told twice. No condition. -/
namespace Go.E
open Go
theorem outs_dist (p : Plan) (e i : Int) : (outsP p e i).Pairwise (fun a b => a.out ≠ b.out) := by
 unfold outsP
 repeat' split
 all_goals simp
theorem outs_fact {p : Plan} {e i : Int} {w : Way} (h : w ∈ outsP p e i) : 0 ≤ w.out ∧ w.out < endsF (kindP p e) ∧ 0 ≤ i ∧ i < endsF (kindP p e) ∧ kindP p e ≠ 4 ∧ (w.pos ≠ 0 → kindP p e = 2 ∧ (w.pos = 1 ∨ w.pos = 2)) := by
 unfold outsP at h
 cases hh : hasP p ⟨e, i⟩ with
 | false => rw [hh] at h; simp at h
 | true =>
  obtain ⟨h1, h2, h3⟩ := hasP_fin hh
  simp only at h1 h2 h3
  rw [hh] at h
  simp only [if_true] at h
  by_cases k1 : kindP p e = 1
  ·rw [k1] at h h3 ⊢
   simp [endsF] at h h3 ⊢
   subst h
   simp; omega
  ·by_cases k3 : kindP p e = 3
   ·rw [k3] at h h3 ⊢
    simp [endsF] at h h3 ⊢
    subst h
    simp
    split
    ·omega
    ·split
     ·omega
     ·split <;> omega
   ·by_cases k2 : kindP p e = 2
    ·rw [k2] at h h3 ⊢
     simp [endsF] at h h3 ⊢
     by_cases i0 : i = 0
     ·subst i0
      simp at h
      rcases h with rfl | rfl <;> simp
     ·rw [if_neg i0] at h
      simp at h
      subst h
      simp; omega
    ·rw [if_neg k1, if_neg k3, if_neg k2] at h; simp at h
theorem wayF_some {l : List Way} {o : Int} {w : Way} (h : wayF l o = some w) : w ∈ l ∧ w.out = o := by
 refine ⟨List.mem_of_find?_eq_some h, ?_⟩
 have := List.find?_some h
 simpa using this
theorem wayF_mem : ∀ {l : List Way} {w : Way}, l.Pairwise (fun a b => a.out ≠ b.out) → w ∈ l → wayF l w.out = some w
 | a :: l, w, hp, hm => by
  rw [List.pairwise_cons] at hp
  unfold wayF
  rw [List.find?_cons]
  rcases List.mem_cons.1 hm with rfl | hm
  ·simp
  ·have := hp.1 w hm
   have e : (a.out == w.out) = false := beq_eq_false_iff_ne.2 this
   simp only [e]
   exact wayF_mem hp.2 hm
section
variable {p : Plan} {n : Net}
structure OnR (p : Plan) (a s : Int) (x : Port) (st : List Step) (nd : List Need) (r : Road) (t : List Step) : Prop where
 frm : r.frm = s
 guards : r.guards = []
 zone : r.zone = []
 holds : r.holds = []
 bare : r.bare = false
 steps : r.steps = st ++ t
 ne : t ≠ []
 len : r.steps.length ≤ 12
 all : stepsF p a (some x) st nd t = some r.needs
 tail : ∀ l, t.getLast? = some l → tailF p r.fin r.to l = true
theorem onF_road (s a : Int) : ∀ (k : Nat) (st : List Step) (nd : List Need) (x : Port) (r : Road), st.length + k = 13 → r ∈ onF p s k st nd x (a :: st.map (·.elem)) → ∃ t, OnR p a s x st nd r t ∧ ∃ u t', t = u :: t' ∧ u.elem = x.elem ∧ u.in_ = x.fin
 | 0, st, nd, x, r, hk, hr => by simp [onF] at hr
 | k + 1, st, nd, x, r, hk, hr => by
  rw [onF_succ] at hr
  by_cases hm : x.elem ∈ a :: st.map (·.elem) ∨ st.length = 12
  ·rw [if_pos hm] at hr; simp at hr
  ·rw [if_neg hm] at hr
   have hm1 : x.elem ∉ a :: st.map (·.elem) := fun h => hm (.inl h)
   have hm2 : ¬ (x.elem ≠ x.elem ∨ x.fin ≠ x.fin ∨ x.elem = a ∨ x.elem ∈ st.map (·.elem)) := by
    rintro (h1 | h1 | h1 | h1)
    ·exact h1 rfl
    ·exact h1 rfl
    ·exact hm1 (by rw [h1]; simp)
    ·exact hm1 (List.mem_cons_of_mem _ h1)
   have hlen : st.length < 12 := by
    have : st.length ≠ 12 := fun h => hm (.inr h)
    omega
   by_cases k4 : kindP p x.elem = 4
   ·rw [if_pos k4] at hr
    simp at hr
    subst hr
    refine ⟨[⟨x.elem, x.fin, -1⟩], ⟨rfl, rfl, rfl, rfl, rfl, rfl, by simp, by simp [mkR]; omega, ?_, ?_⟩, _, _, rfl, rfl, rfl⟩
    ·simp only [stepsF, if_neg hm2, if_pos k4, mkR, true_and, if_true]
    ·intro l hl
     simp at hl
     subst hl
     simp [tailF, k4, mkR]
   ·rw [if_neg k4] at hr
    obtain ⟨w, hw, hr⟩ := List.mem_flatMap.1 hr
    have hway := wayF_mem (outs_dist p x.elem x.fin) hw
    unfold wayR at hr
    by_cases hrd : 0 ≤ readsP p ⟨x.elem, w.out⟩
    ·rw [if_pos hrd] at hr
     simp at hr
     subst hr
     refine ⟨[⟨x.elem, x.fin, w.out⟩], ⟨rfl, rfl, rfl, rfl, rfl, rfl, by simp, by simp [mkR]; omega, ?_, ?_⟩, _, _, rfl, rfl, rfl⟩
     ·unfold stepsF; rw [if_neg hm2, if_neg k4, hway]; simp [stepsF, mkR]
     ·intro l hl
      simp at hl
      subst hl
      simp [tailF, k4, mkR, hrd]
    ·rw [if_neg hrd] at hr
     cases hnx : nextP p ⟨x.elem, w.out⟩ with
     | none =>
      rw [hnx] at hr
      simp at hr
      subst hr
      refine ⟨[⟨x.elem, x.fin, w.out⟩], ⟨rfl, rfl, rfl, rfl, rfl, rfl, by simp, by simp [mkR]; omega, ?_, ?_⟩, _, _, rfl, rfl, rfl⟩
      ·unfold stepsF; rw [if_neg hm2, if_neg k4, hway]; simp [stepsF, mkR]
      ·intro l hl
       simp at hl
       subst hl
       simp [tailF, k4, mkR, hrd, hnx]
     | some y =>
      rw [hnx] at hr
      have hmm : a :: st.map (·.elem) ++ [x.elem] = a :: (st ++ [(⟨x.elem, x.fin, w.out⟩ : Step)]).map (·.elem) := by simp
      simp only at hr
      rw [hmm] at hr
      obtain ⟨t, ht, u, t', htu, -, -⟩ := onF_road s a k (st ++ [⟨x.elem, x.fin, w.out⟩]) (addN nd x.elem w.pos) y r (by simp; omega) hr
      refine ⟨⟨x.elem, x.fin, w.out⟩ :: t, ⟨ht.frm, ht.guards, ht.zone, ht.holds, ht.bare, by rw [ht.steps]; simp, by simp, ht.len, ?_, ?_⟩, _, _, rfl, rfl, rfl⟩
      ·unfold stepsF
       rw [if_neg hm2, if_neg k4, hway]
       dsimp only
       rw [if_neg (fun h => hrd h.2), hnx]
       exact ht.all
      ·intro l hl
       refine ht.tail l ?_
       rw [htu] at hl ⊢
       rwa [List.getLast?_cons_cons] at hl
theorem ofF_road {s : Int} {r : Road} (h : r ∈ ofF p s) : isF p r = true ∧ r.frm = s ∧ r.guards = [] ∧ r.zone = [] ∧ r.holds = [] ∧ r.bare = false ∧ r.steps.length ≤ 12 ∧ 1 ≤ r.steps.length ∧ r.needs.length ≤ 12 := by
 unfold ofF at h
 cases hi : idx p.signals s with
 | none => rw [hi] at h; simp at h
 | some sg =>
  rw [hi] at h
  simp only at h
  cases hx : nextP p sg.at_ with
  | none => rw [hx] at h; simp at h
  | some y =>
   rw [hx] at h
   simp only at h
   obtain ⟨t, ht, -⟩ := onF_road s sg.at_.elem 13 [] [] y r rfl (by simpa using h)
   have hst : r.steps = t := by rw [ht.steps]; rfl
   have hlen : 1 ≤ r.steps.length := by
    rw [hst]
    exact List.length_pos_iff.2 ht.ne
   have hl2 := ht.len
   have hnl := stepsF_len ht.all
   rw [← hst] at hnl
   simp only [List.length_nil] at hnl
   refine ⟨?_, ht.frm, ht.guards, ht.zone, ht.holds, ht.bare, ht.len, hlen, by omega⟩
   unfold isF
   rw [ht.frm, hi]
   simp only
   rw [if_neg (by omega), hx, hst, ht.all]
   obtain ⟨l, hl⟩ : ∃ l, t.getLast? = some l := by
    rw [List.getLast?_eq_getElem?]
    rw [hst] at hlen
    exact ⟨_, List.getElem?_eq_getElem (by omega)⟩
   simp only [hl, ht.tail l hl, decide_true, Bool.and_true]
end
end Go.E
/- Plain Lean: RoadOfs, RoadAlls, RoadIsOne, RoadTurned and RoadEach answer true, for every argument. No condition. -/
namespace Go.E
open Go
theorem mod_ok {a n : Int} (ha : 0 ≤ a) (hn : 0 < n) : ∃ r, modI a n = some r ∧ 0 ≤ r ∧ r < n := by
 unfold modI
 rw [if_neg (by omega)]
 exact ⟨_, rfl, Int.tmod_nonneg _ ha, by rw [Int.tmod_eq_emod_of_nonneg ha]; exact Int.emod_lt_of_pos _ hn⟩
theorem u8w {n : Int} (h : (Lit.int .u8 n).wf = true) : 0 ≤ n ∧ n ≤ 255 ∧ wi64 n = n := by
 have : 0 ≤ n ∧ n ≤ 255 := by simpa [Lit.wf, IntKind.min, IntKind.max, IntKind.signed, IntKind.bits] using h
 exact ⟨this.1, this.2, by rw [wi64_id] <;> omega⟩
section
variable {p : Plan} {n : Net}
theorem ofF_len (s : Int) : (ofF p s).length ≤ 2 ^ 13 := by
 unfold ofF
 split
 ·simp
 ·split
  ·simp
  ·exact onF_len p s 13 _ _ _ _
def preF (p : Plan) (i : Nat) : List Road := (List.range i).flatMap fun (s : Nat) => ofF p (s : Int)
def roadsF (p : Plan) : List Road := preF p p.signals.length
theorem preF_succ (i : Nat) : preF p (i + 1) = preF p i ++ ofF p (i : Int) := by
 unfold preF
 rw [List.range_succ, List.flatMap_append]; simp
theorem preF_mem {i : Nat} {r : Road} (h : r ∈ preF p i) : ∃ s : Int, r ∈ ofF p s := by
 obtain ⟨s, _, hs⟩ := List.mem_flatMap.1 h
 exact ⟨_, hs⟩
theorem preF_mono {i : Nat} : ∀ {j : Nat}, i ≤ j → (preF p i).length ≤ (preF p j).length
  | 0, h => by have : i = 0 := by omega
               subst this; exact Nat.le_refl _
  | j + 1, h => by
    by_cases e : i = j + 1
    · subst e; exact Nat.le_refl _
    · have := preF_mono (i := i) (j := j) (by omega)
      rw [preF_succ, List.length_append]; omega
def allR (p : Plan) : List Road × Int := if 64 < (roadsF p).length then ([], 3) else (roadsF p, 0)
theorem R12_All_eq (hv : Valid p) : g_R12_All p = some (allR p) := by
 have hs := hv.ns
 unfold g_R12_All
 obtain ⟨b, h1, h2⟩ := loop_st (l := p.signals) (step := g_R12_All_l1 p) (Post := fun b => b = allR p) (fun i o => o = preF p i ∧ o.length ≤ 64) (c := [])
  (fun o ho => by
   refine ⟨allR p, ?_, rfl⟩
   unfold allR roadsF
   rw [← ho.1, if_neg (by omega)]
   simp [g_R12_All_l1])
  (fun i a o ha ho => by
   have hi := ilt ha
   have h2 := ofF_len (p := p) (i : Int)
   have hb : o.length + (ofF p (i : Int)).length ≤ 4294967296 := by have := ho.2; omega
   have hlen : (o ++ ofF p (i : Int)) = preF p (i + 1) := by rw [preF_succ, ho.1]
   by_cases c : 64 < (o ++ ofF p (i : Int)).length
   ·refine .inl ⟨([], 3), ?_, ?_⟩
    ·have d : decide (64 < ((o ++ ofF p (i : Int)).length : Int)) = true := by simp only [decide_eq_true_eq]; omega
     simp only [g_R12_All_l1, dlt ha, cond_true, Of_eq hv.few, Option.bind_some, appI_ok hb, d]
    ·unfold allR roadsF
     have := preF_mono (p := p) (show i + 1 ≤ p.signals.length by omega)
     rw [hlen] at c
     rw [if_pos (by omega)]
   ·refine .inr ⟨o ++ ofF p (i : Int), ?_, hlen, by omega⟩
    have d : decide (64 < ((o ++ ofF p (i : Int)).length : Int)) = false := by simp only [decide_eq_false_iff_not]; omega
    simp only [g_R12_All_l1, dlt ha, cond_true, Of_eq hv.few, Option.bind_some, appI_ok hb, d, cond_false, wi64_succ (show i < 1000000000 by omega)])
  ⟨by simp [preF], by simp⟩
 rw [h1, h2]
theorem allR_mem {r : Road} (h : r ∈ (allR p).1) : ∃ s : Int, r ∈ ofF p s := by
 unfold allR at h
 split at h
 ·simp at h
 ·exact preF_mem h
end
end Go.E
/- Plain Lean: RoadRuns answers true, for every argument. No condition. -/
namespace Go.E
open Go
def lieW (pos : List Int) (e : Int) : Int := (idx pos e).getD 0
section
variable {p : Plan} {n : Net}
def lieStep (o : List Int) (nd : Need) : List Int := if 0 ≤ nd.elem ∧ nd.elem < o.length then setI o nd.elem nd.pos else o
theorem lieFold_len : ∀ (l : List Need) (o : List Int), (l.foldl lieStep o).length = o.length
 | [], o => rfl
 | nd :: l, o => by
  rw [List.foldl_cons, lieFold_len l]
  unfold lieStep
  split
  ·rw [setI_len]
  ·rfl
theorem lieStep_ne {o : List Int} {nd : Need} {e : Int} (h : nd.elem ≠ e) : idx (lieStep o nd) e = idx o e := by
 unfold lieStep
 split
 ·rename_i c
  unfold setI
  cases e with
  | negSucc k => rfl
  | ofNat k =>
   show (o.set nd.elem.toNat nd.pos)[k]? = o[k]?
   rw [List.getElem?_set_ne]
   intro h2
   apply h
   have := c.1
   simp only [Int.ofNat_eq_natCast]; omega
 ·rfl
theorem lieFold_ne {e : Int} : ∀ (l : List Need) (o : List Int), (∀ nd ∈ l, nd.elem ≠ e) → idx (l.foldl lieStep o) e = idx o e
 | [], o, _ => rfl
 | nd :: l, o, h => by
  rw [List.foldl_cons, lieFold_ne l _ fun m hm => h m (by simp [hm]), lieStep_ne (h nd (by simp))]
theorem lieFold_mem : ∀ (l : List Need) (o : List Int), l.Pairwise (fun a b => a.elem ≠ b.elem) → ∀ nd ∈ l, 0 ≤ nd.elem → nd.elem < o.length → idx (l.foldl lieStep o) nd.elem = some nd.pos
 | a :: l, o, hp, nd, hm, h0, h1 => by
  rw [List.pairwise_cons] at hp
  rw [List.foldl_cons]
  rcases List.mem_cons.1 hm with rfl | hm
  ·rw [lieFold_ne l _ fun m hm => fun h => hp.1 m hm h.symm]
   unfold lieStep
   rw [if_pos ⟨h0, h1⟩]
   obtain ⟨k, hk⟩ := Int.eq_ofNat_of_zero_le h0
   rw [hk]
   rw [hk] at h1
   show (o.set (k : Int).toNat nd.pos)[k]? = _
   rw [Int.toNat_natCast, List.getElem?_set_self (by omega)]
  ·refine lieFold_mem l _ hp.2 nd hm h0 ?_
   have : (lieStep o a).length = o.length := by have := lieFold_len [a] o; simpa using this
   omega
theorem Lying_ok (p : Plan) (l : List Need) (pos : List Int) (hp : p.elems.length ≤ 1000) (hl : l.length ≤ 1000) :
  ∃ base : List Int, g_L7_Lying p l pos = some (l.foldl lieStep base) ∧ base.length = p.elems.length ∧ ∀ i : Nat, i < p.elems.length → base[i]? = some ((pos[i]?).getD 0) := by
 unfold g_L7_Lying
 have hmk : mkI (p.elems.length : Int) (0 : Int) = some (List.replicate p.elems.length 0) := by
  unfold mkI
  rw [if_pos ⟨by omega, by omega⟩]; rfl
 rw [hmk]
 simp only [Option.bind_some]
 have needs : ∀ o : List Int, o.length = p.elems.length → loopR (g_L7_Lying_l2 l) (0, o) = some (l.foldl lieStep o) := by
  intro o ho
  refine loop_list (γ := List Int) l (fun k c => ((k : Int), c)) (fun _ c r => some (r.foldl lieStep c)) (fun c => ?_) (fun k c a r ha hi => ?_) o
  ·simp [g_L7_Lying_l2]
  ·right
   refine ⟨lieStep c a, ?_, by simp⟩
   simp only [g_L7_Lying_l2, dlt ha, cond_true, idx_nat, ha, Option.bind_some]
   unfold lieStep
   by_cases c1 : 0 ≤ a.elem
   ·by_cases c2 : a.elem < (c.length : Int)
    ·obtain ⟨x, hx⟩ := idx_of c1 c2
     simp only [c1, c2, decide_true, cond_true, Option.bind_some, hx, and_self, if_true, wi64_succ (show k < 1000000000 by omega)]
    ·simp only [c1, c2, decide_true, decide_false, cond_true, cond_false, Option.bind_some, and_false, if_false, wi64_succ (show k < 1000000000 by omega)]
   ·simp only [c1, decide_false, cond_false, Option.bind_some, false_and, if_false, wi64_succ (show k < 1000000000 by omega)]
 have key : ∀ (m i : Nat) (o : List Int), i + m = min p.elems.length pos.length → o.length = p.elems.length → (∀ j : Nat, j < i → o[j]? = some ((pos[j]?).getD 0)) → (∀ j : Nat, i ≤ j → j < p.elems.length → o[j]? = some 0) →
   ∃ base : List Int, loopR (g_L7_Lying_l1 l pos) ((i : Int), o) = some (l.foldl lieStep base) ∧ base.length = p.elems.length ∧ ∀ j : Nat, j < p.elems.length → base[j]? = some ((pos[j]?).getD 0) := by
  intro m
  induction m with
  | zero =>
   intro i o hi ho h1 h2
   refine ⟨o, ?_, ho, fun j hj => ?_⟩
   ·rw [loopR_inr (b := l.foldl lieStep o)]
    have : ((bif decide ((i : Int) < (o.length : Int)) then some (decide ((i : Int) < (pos.length : Int))) else some false : Option Bool)) = some false := by
     by_cases c : i < o.length
     ·have d1 : decide ((i : Int) < (o.length : Int)) = true := by simp; omega
      have d2 : decide ((i : Int) < (pos.length : Int)) = false := by simp; omega
      simp only [d1, d2, cond_true]
     ·have d1 : decide ((i : Int) < (o.length : Int)) = false := by simp; omega
      simp only [d1, cond_false]
    simp only [g_L7_Lying_l1, this, Option.bind_some, cond_false, needs o ho, Option.map_some]
   ·by_cases c : j < i
    ·exact h1 j c
    ·rw [h2 j (by omega) hj, List.getElem?_eq_none (by omega)]; rfl
  | succ m ih =>
   intro i o hi ho h1 h2
   have d1 : decide ((i : Int) < (o.length : Int)) = true := by simp; omega
   have d2 : decide ((i : Int) < (pos.length : Int)) = true := by simp; omega
   have hx : pos[i]? = some (pos[i]'(by omega)) := List.getElem?_eq_getElem _
   have ho2 : o[i]? = some (o[i]'(by omega)) := List.getElem?_eq_getElem _
   rw [loopR_inl (s' := (((i + 1 : Nat) : Int), setI o (i : Int) (pos[i]'(by omega)))) (by
    simp only [g_L7_Lying_l1, d1, d2, cond_true, Option.bind_some, idx_nat, hx, ho2, wi64_succ (show i < 1000000000 by omega)])]
   refine ih (i + 1) _ (by omega) (by rw [setI_len]; exact ho) (fun j hj => ?_) (fun j hj hj2 => ?_)
   ·unfold setI
    by_cases c : j = i
    ·subst c
     rw [Int.toNat_natCast, List.getElem?_set_self (by omega), hx]; rfl
    ·rw [Int.toNat_natCast, List.getElem?_set_ne (by omega)]
     exact h1 j (by omega)
   ·unfold setI
    rw [Int.toNat_natCast, List.getElem?_set_ne (by omega)]
    exact h2 j (by omega) hj2
 have := key (min p.elems.length pos.length) 0 (List.replicate p.elems.length 0) (by omega) (by simp) (fun j hj => by omega) (fun j _ hj => by simp [hj])
 exact this
theorem stepsF_needs {a : Int} : ∀ {t : List Step} {x : Option Port} {pv : List Step} {nd nd' : List Need}, (∀ m ∈ nd, m.elem ∈ pv.map (·.elem) ∧ kindP p m.elem = 2 ∧ (m.pos = 1 ∨ m.pos = 2)) → nd.Pairwise (fun a b => a.elem ≠ b.elem) → stepsF p a x pv nd t = some nd' →
  (∀ m ∈ nd', m.elem ∈ (pv ++ t).map (·.elem) ∧ kindP p m.elem = 2 ∧ (m.pos = 1 ∨ m.pos = 2)) ∧ nd'.Pairwise (fun a b => a.elem ≠ b.elem) ∧ ∀ m ∈ nd, m ∈ nd'
 | [], x, pv, nd, nd', h1, h2, h => by
  have : nd = nd' := by cases x <;> simpa [stepsF] using h
  subst this
  exact ⟨by simpa using h1, h2, fun m hm => hm⟩
 | s :: r, none, pv, nd, nd', h1, h2, h => by simp [stepsF] at h
 | s :: r, some x, pv, nd, nd', h1, h2, h => by
  unfold stepsF at h
  split at h
  ·cases h
  ·rename_i hc
   split at h
   ·split at h
    ·cases h
     exact ⟨fun m hm => ⟨by have := (h1 m hm).1; simp at this ⊢; exact .inl this, (h1 m hm).2⟩, h2, fun m hm => hm⟩
    ·cases h
   ·cases hw : wayF (outsP p s.elem s.in_) s.out with
    | none => rw [hw] at h; cases h
    | some w =>
     rw [hw] at h
     simp only at h
     split at h
     ·cases h
     ·have hf := outs_fact (wayF_some hw).1
      have hsub : ∀ m ∈ addN nd s.elem w.pos, m ∈ nd ∨ (m = ⟨s.elem, w.pos⟩ ∧ w.pos ≠ 0) := by
       intro m hm
       unfold addN at hm
       split at hm
       ·exact .inl hm
       ·rename_i c
        rcases List.mem_append.1 hm with hm | hm
        ·exact .inl hm
        ·exact .inr ⟨by simpa using hm, c⟩
      have hnot : s.elem ∉ pv.map (·.elem) := fun h => hc (.inr (.inr (.inr h)))
      obtain ⟨g1, g2, g3⟩ := stepsF_needs (nd := addN nd s.elem w.pos) (pv := pv ++ [s]) (fun m hm => by
       rcases hsub m hm with hm | ⟨rfl, hp⟩
       ·exact ⟨by have := (h1 m hm).1; simp at this ⊢; exact .inl this, (h1 m hm).2⟩
       ·exact ⟨by simp, hf.2.2.2.2.2 hp⟩) (by
       unfold addN
       split
       ·exact h2
       ·rw [List.pairwise_append]
        refine ⟨h2, by simp, fun m hm q hq => ?_⟩
        simp at hq
        subst hq
        intro he
        simp only at he
        rw [← he] at hnot
        exact hnot (h1 m hm).1) h
      refine ⟨fun m hm => ?_, g2, fun m hm => g3 m ?_⟩
      ·have := g1 m hm
       simpa using this
      ·unfold addN
       split
       ·exact hm
       ·exact List.mem_append.2 (.inl hm)
theorem kind_range {e : Int} (h : kindP p e ≠ 0) : 0 ≤ e ∧ e < p.elems.length := by
 unfold kindP at h
 cases hi : idx p.elems e with
 | none => rw [hi] at h; simp at h
 | some a => exact idx_len hi
theorem isF_parts {r : Road} (h : isF p r = true) : ∃ sg nd l, idx p.signals r.frm = some sg ∧ 1 ≤ r.steps.length ∧ r.steps.length ≤ 12 ∧ stepsF p sg.at_.elem (nextP p sg.at_) [] [] r.steps = some nd ∧ r.steps.getLast? = some l ∧ tailF p r.fin r.to l = true ∧ r.needs = nd := by
 unfold isF at h
 cases hi : idx p.signals r.frm with
 | none => rw [hi] at h; cases h
 | some sg =>
  rw [hi] at h
  simp only at h
  split at h
  ·cases h
  ·cases hs : stepsF p sg.at_.elem (nextP p sg.at_) [] [] r.steps with
   | none => rw [hs] at h; cases h
   | some nd =>
    rw [hs] at h
    cases hl : r.steps.getLast? with
    | none => rw [hl] at h; cases h
    | some l =>
     rw [hl] at h
     simp only [Bool.and_eq_true, decide_eq_true_eq] at h
     exact ⟨sg, nd, l, rfl, by omega, by omega, hs, rfl, h.1, h.2⟩
end
end Go.E
/- Plain Lean: RoadRuns answers true, for every argument. No condition. -/
namespace Go.E
open Go
section
variable {p : Plan} {n : Net}
end
end Go.E
/- Plain Lean: RoadWhole answers true, for every argument. No condition. -/
namespace Go.E
open Go
section
variable {p : Plan} {n : Net}
end
end Go.E
/- Reach hands the keys of a map out in whatever order and sorts them: what it answers has no order in it; the example that the laws of sides look at. No condition. -/
namespace Go.E
open Go Go.Proofs
def keysF (m : List (Int × Bool)) : Option (List Int) := if m.length ≤ 4294967296 then some (isort (m.map (·.1))) else none
theorem isort_congr {a b : List Int} (h : a.Perm b) : isort a = isort b :=
 List.Perm.eq_of_pairwise (le := fun a b : Int => a ≤ b) (fun a b _ _ h1 h2 => Int.le_antisymm h1 h2) (isort_rise a) (isort_rise b) ((isort_perm a).trans (h.trans (isort_perm b).symm))
theorem erase_perm {α : Type} : ∀ {l : List α} {j : Nat} {y : α}, l[j]? = some y → (y :: l.eraseIdx j).Perm l
 | x :: l, 0, y, h => by
  rw [List.getElem?_cons_zero] at h
  cases h
  rw [List.eraseIdx_cons_zero]
 | x :: l, j + 1, y, h => by
  rw [List.getElem?_cons_succ] at h
  rw [List.eraseIdx_cons_succ]
  exact (List.Perm.swap x y _).trans ((erase_perm h).cons x)
theorem keys_run : ∀ {n : Nat} {s : List Int × List (Int × Bool)} {r : List Int}, AllRun (fun s : List Int × List (Int × Bool) => s.2) g_side_Reach_l3z g_side_Reach_l3 n s r → s.1.length ≤ 4294967296 → s.1.length + s.2.length ≤ 4294967296
 | 0, _, _, h, _ => h.elim
 | n + 1, (a, m), r, h, h0 => by
  cases m with
  | nil => exact h0
  | cons y m =>
   have hy := h.2 0 y rfl
   simp only [g_side_Reach_l3, appI, List.length_cons, List.length_nil, List.eraseIdx_cons_zero] at hy
   split at hy
   ·rename_i hle
    rcases hy with e | ⟨s', e, hr⟩
    ·cases e
    ·cases e
     have := keys_run hr (by simp; omega)
     simp at this ⊢
     omega
   ·rcases hy with e | ⟨s', e, hr⟩ <;> cases e
theorem keysA (m : List (Int × Bool)) : loopA (fun s : List Int × List (Int × Bool) => s.2) g_side_Reach_l3z g_side_Reach_l3 ([], m) = keysF m := by
 unfold keysF
 split
 ·rename_i hm
  refine loopA_inv (fun s => (s.1 ++ s.2.map (·.1)).Perm (m.map (·.1))) ?_ ?_ (by simp)
  ·rintro ⟨a, b⟩ hp h0
   simp only at h0
   subst h0
   simp only [List.map_nil, List.append_nil] at hp
   have hl := hp.length_eq
   rw [List.length_map] at hl
   have e1 : sortI a = some (isort a) := by unfold sortI; rw [if_pos (by omega)]
   simp only [g_side_Reach_l3z, e1, Option.bind_some, Option.map_some, isort_congr hp]
  ·rintro ⟨a, b⟩ j y hp hy
   simp only at hy hp
   have he := (erase_perm hy).map (·.1)
   have hl := hp.length_eq
   have hl2 := (erase_perm hy).length_eq
   simp only [List.length_append, List.length_map, List.length_cons] at hl hl2
   refine .inr ⟨(a ++ [y.1], b.eraseIdx j), ?_, rfl, ?_⟩
   ·simp only [g_side_Reach_l3, appI, List.length_cons, List.length_nil]
    rw [if_pos (by omega)]
    rfl
   ·simp only [List.append_assoc, List.singleton_append]
    refine List.Perm.trans (List.Perm.append_left a ?_) hp
    exact he
 ·rename_i hm
  cases h : loopA (fun s : List Int × List (Int × Bool) => s.2) g_side_Reach_l3z g_side_Reach_l3 ([], m) with
  | none => rfl
  | some r =>
   obtain ⟨n, hr⟩ := loopA_some h
   have := keys_run hr (by simp)
   simp at this
   omega
noncomputable def r_side_Reach_l2 (x0 : Net) (x1 : (List Int)) (x2 : (List Bool)) (x3 : Road) (s555 : (List Port) × (List (Port × Bool)) × (List (Int × Bool))) : Option (((List Port) × (List (Port × Bool)) × (List (Int × Bool))) ⊕ (List Int)) :=
 bif decide (0 < (s555.1.length : Int)) then (idx s555.1 0).bind fun y789 => (slO s555.1 1 (s555.1.length : Int)).bind fun y793 => (g_net_Net_Reads x0 y789).bind fun y797 => ((bif ((assoc s555.2.1 y789).getD false) then some true else (g_side_Own x3 y789.elem).bind fun y850 => bif y850 then some true else bif decide (0 ≤ y797) then bif decide (y797 < (x2.length : Int)) then (idx x2 y797).bind fun y856 => some y856 else some false else some false : Option (Bool))).bind fun (t846 : Bool) => bif t846 then some (.inl (y793, aput y789 true s555.2.1, s555.2.2)) else (g_net_Net_Kind x0 y789.elem).bind fun y865 => bif (y865 == 4) then some (.inl (y793, s555.2.1, aput y789.elem true s555.2.2)) else ((bif decide (y789.elem < (x1.length : Int)) then (idx x1 y789.elem).bind fun y876 => some y876 else some 0 : Option (Int))).bind fun (t873 : Int) => (g_net_Net_From x0 y789.elem y789.fin t873).bind fun y882 => bif (!y882.2) then some (.inl (y793, aput y789 true s555.2.1, s555.2.2)) else (g_net_Net_Next x0 (⟨y789.elem, y882.1⟩ : Port)).bind fun y890 => bif y890.2 then (appI y793 [y890.1]).bind fun y893 => some (.inl (y893, aput y789 true s555.2.1, aput y789.elem true s555.2.2)) else some (.inl (y793, aput y789 true s555.2.1, aput y789.elem true s555.2.2)) else (keysF s555.2.2).map .inr
noncomputable def r_side_Reach_l1 (x0 : Net) (x1 : (List Int)) (x2 : (List Bool)) (x3 : Road) (y108 : (List Port)) (s110 : Int × (List Port)) : Option ((Int × (List Port)) ⊕ (List Int)) :=
 bif decide (s110.1 < (y108.length : Int)) then (idx y108 s110.1).bind fun y200 => (g_net_Net_Next x0 y200).bind fun y204 => (appI s110.2 [y204.1]).bind fun y206 => some (.inl (wi64 (s110.1 + 1), y206)) else (loopR (r_side_Reach_l2 x0 x1 x2 x3) (s110.2, [], [])).map .inr
noncomputable def r_side_Reach (x0 : Net) (x1 : (List Int)) (x2 : (List Bool)) (x3 : Road) : Option (List Int) :=
 (g_side_Ports x0 x3).bind fun y108 => loopR (r_side_Reach_l1 x0 x1 x2 x3 y108) (0, ([] : List Port))
theorem reach_l2_eq : g_side_Reach_l2 = r_side_Reach_l2 := by
 funext x0 x1 x2 x3 s
 unfold g_side_Reach_l2 r_side_Reach_l2
 simp only [keysA]
theorem reach_l1_eq : g_side_Reach_l1 = r_side_Reach_l1 := by
 funext x0 x1 x2 x3 y s
 unfold g_side_Reach_l1 r_side_Reach_l1
 rw [reach_l2_eq]
theorem reach_eq : g_side_Reach = r_side_Reach := by
 funext x0 x1 x2 x3
 unfold g_side_Reach r_side_Reach
 rw [reach_l1_eq]
set_option maxRecDepth 100000
end Go.E
/- Plain Lean: the ports on the sides of a road, and what is its own: the program's answer and the document's are one (laws SidePorts, SideOwns). No condition. -/
namespace Go.E
open Go
theorem any_find {l : List Step} {e : Int} : decide (e ∈ l.map (·.elem)) = (l.find? fun s => s.elem == e).isSome := by
 induction l with
 | nil => simp
 | cons a l ih =>
  rw [List.find?_cons]
  by_cases c : a.elem = e
  ·simp [c]
  ·have : (a.elem == e) = false := beq_eq_false_iff_ne.2 c
   rw [this]
   simp only [List.map_cons, List.mem_cons, Ne.symm c, false_or]
   exact ih
theorem Own_eq (r : Road) (hl : r.steps.length < 1000000) (e : Int) : g_side_Own r e = some (decide (e ∈ r.steps.map (·.elem))) := by
 unfold g_side_Own
 obtain ⟨t, h1, h2⟩ := index_loop (l := r.steps) (f := fun s => s.elem == e) hl (step := g_side_Own_l1 r e) (by simp [g_side_Own_l1]) (fun i a ha => by
  have := ilt ha
  simp only [g_side_Own_l1, g_side_Own_1, dlt ha, cond_true, idx_nat, ha, Option.bind_some, wi64_succ (show i < 1000000000 by omega)]
  by_cases c : a.elem = e
  ·simp [c]
  ·have : (a.elem == e) = false := beq_eq_false_iff_ne.2 c
   simp [this])
 rw [h1, any_find]
 simp only [Option.bind_some, Option.some.injEq]
 rcases h2 with ⟨rfl, h2⟩ | ⟨a, h0, h2, _⟩
 ·rw [h2]; rfl
 ·rw [h2]; simp [h0]
theorem flat_loop {α β γ : Type} (B : Nat) {l : List α} (f : α → List β) (hf : ∀ a, (f a).length ≤ 4) (hl : l.length ≤ 100000) {step : Int × List β → Option (Int × List β ⊕ γ)} {fin : List β → γ}
  (h0 : ∀ o, step ((l.length : Int), o) = some (.inr (fin o))) (h1 : ∀ (i : Nat) a o, l[i]? = some a → o.length ≤ B + 400000 → step ((i : Int), o) = some (.inl (((i + 1 : Nat) : Int), o ++ f a))) (o : List β) (ho : o.length ≤ B) :
  loopR step ((0 : Int), o) = some (fin (o ++ l.flatMap f)) := by
 have hlen : ∀ i, ((l.take i).flatMap f).length ≤ i * 4 := by
  intro i
  induction i with
  | zero => simp
  | succ i ih =>
   rw [List.take_add_one, List.flatMap_append, List.length_append]
   cases h : l[i]? with
   | none => simp only [Option.toList_none, List.flatMap_nil, List.length_nil]; omega
   | some a =>
    have := hf a
    simp only [Option.toList_some, List.flatMap_cons, List.flatMap_nil, List.append_nil]
    omega
 obtain ⟨b, h2, rfl⟩ := loop_st (l := l) (step := step) (Post := fun b => b = fin (o ++ l.flatMap f)) (fun i c => c = o ++ (l.take i).flatMap f) (c := o)
  (fun c hc => ⟨fin c, h0 c, by rw [hc, List.take_length]⟩)
  (fun i a c ha hc => by
   have hi := ilt ha
   have := hlen i
   refine .inr ⟨c ++ f a, h1 i a c ha (by rw [hc, List.length_append]; omega), ?_⟩
   rw [hc, List.take_add_one, ha]
   simp only [Option.toList_some, List.flatMap_append, List.flatMap_cons, List.flatMap_nil, List.append_nil, List.append_assoc])
  (by simp)
 exact h2
section
variable {p : Plan} {n : Net}
def sideK (p : Plan) (s : Step) : List Int :=
 if kindP p s.elem = 2 then [wi64 (3 - (if s.out > s.in_ then s.out else s.in_))] else if kindP p s.elem = 3 then (if 1 < s.in_ then [0, 1] else [2, 3]) else []
def joinK (p : Plan) (e : Int) (k : Int) : List Port := if (nextP p ⟨e, k⟩).isSome then [⟨e, k⟩] else []
def portsS (p : Plan) (s : Step) : List Port := (sideK p s).flatMap (joinK p s.elem)
def portsF (p : Plan) (l : List Step) : List Port := l.flatMap (portsS p)
theorem sideK_len (s : Step) : (sideK p s).length ≤ 2 := by
 unfold sideK
 split
 ·simp
 ·split
  ·split <;> simp
  ·simp
theorem joinK_len (e k : Int) : (joinK p e k).length ≤ 1 := by unfold joinK; split <;> simp
theorem portsS_len (s : Step) : (portsS p s).length ≤ 2 := by
 have := flat_lenB (joinK p s.elem) 1 (sideK p s) fun k _ => joinK_len s.elem k
 have := sideK_len (p := p) s
 unfold portsS
 omega
theorem portsF_len (l : List Step) : (portsF p l).length ≤ l.length * 2 := flat_lenB _ 2 l fun s _ => portsS_len s
theorem Ports_l2 (hn : NetOf p n) (s : Step) (c : Int × List Port) (ks : List Int) (hk : ks.length ≤ 10) (o : List Port) (ho : o.length ≤ 400000) :
  loopR (g_side_Ports_l2 n c s ks) (0, o) = some (.inl (wi64 (c.1 + 1), o ++ ks.flatMap (joinK p s.elem))) := by
 refine flat_loop 400000 (l := ks) (joinK p s.elem) (fun k => by have := joinK_len (p := p) s.elem k; omega) (by omega) (fin := fun o => (Sum.inl (wi64 (c.1 + 1), o) : (Int × List Port) ⊕ List Port)) (fun o => ?_) (fun i a o ha hb => ?_) o ho
 ·simp only [g_side_Ports_l2, dge, cond_false]
 ·have := ilt ha
  simp only [g_side_Ports_l2, dlt ha, cond_true, idx_nat, ha, Option.bind_some, net_Next hn, wi64_succ (show i < 1000000000 by omega)]
  unfold joinK
  cases (nextP p ⟨s.elem, a⟩).isSome with
  | true => simp [appI_ok (show o.length + [(⟨s.elem, a⟩ : Port)].length ≤ 4294967296 by simp; omega)]
  | false => simp
theorem Ports_eq (hn : NetOf p n) (r : Road) (hl : r.steps.length ≤ 1000) : g_side_Ports n r = some (portsF p r.steps) := by
 unfold g_side_Ports
 rw [show portsF p r.steps = ([] : List Port) ++ r.steps.flatMap (portsS p) from rfl]
 refine flat_loop 0 (l := r.steps) (portsS p) (fun s => by have := portsS_len (p := p) s; omega) (by omega) (fin := fun o => o) (fun o => ?_) (fun i s o ha hb => ?_) [] (by simp)
 ·simp only [g_side_Ports_l1, dge, cond_false]
 ·have hi := ilt ha
  simp only [g_side_Ports_l1, dlt ha, cond_true, idx_nat, ha, Option.bind_some, net_Kind hn]
  have e : (bif (kindP p s.elem == 2) then some [wi64 (3 - (if s.out > s.in_ then s.out else s.in_))] else bif (kindP p s.elem == 3) then bif decide (1 < s.in_) then some [0, 1] else some [2, 3] else some ([] : List Int) : Option (List Int)) = some (sideK p s) := by
   unfold sideK
   by_cases c2 : kindP p s.elem = 2
   ·simp [c2]
   ·have b2 : (kindP p s.elem == 2) = false := beq_eq_false_iff_ne.2 c2
    by_cases c3 : kindP p s.elem = 3
    ·by_cases d : 1 < s.in_ <;> simp [b2, c2, c3, d]
    ·have b3 : (kindP p s.elem == 3) = false := beq_eq_false_iff_ne.2 c3
     simp [b2, b3, c2, c3]
  rw [e]
  have hk := sideK_len (p := p) s
  simp only [Option.bind_some, Ports_l2 hn s ((i : Int), o) (sideK p s) (by omega) o (by omega), wi64_succ (show i < 1000000000 by omega)]
  rfl
theorem L8_Road_eq (hv : Valid p) {k : Int} (hk : (Lit.int .u8 k).wf = true) : ∃ r b, g_L8_Road p k = some (r, b) ∧ (b = true → ∃ s, r ∈ ofF p s) := by
 obtain ⟨h0, h1, h2⟩ := u8w hk
 unfold g_L8_Road
 simp only [R12_All_eq hv, Option.bind_some]
 by_cases c : (allR p).2 = 0
 ·have c' : ((allR p).2 != 0) = false := by simp [c]
  by_cases d : (allR p).1.length = 0
  ·exact ⟨(⟨0, 0, 0, [], [], [], [], [], false⟩ : Road), false, by simp [c', d], by simp⟩
  ·have d' : (((allR p).1.length : Int) == 0) = false := by simp only [beq_eq_false_iff_ne, ne_eq]; omega
   obtain ⟨m, hm, m0, m1⟩ := mod_ok h0 (show (0 : Int) < ((allR p).1.length : Int) by omega)
   have e3 : ∃ r, idx (allR p).1 m = some r := by
    obtain ⟨q, rfl⟩ : ∃ q : Nat, m = (q : Int) := ⟨m.toNat, by omega⟩
    exact ⟨_, by rw [idx_nat, List.getElem?_eq_getElem (by omega)]⟩
   obtain ⟨r, hr⟩ := e3
   have hmem : r ∈ (allR p).1 := by
    obtain ⟨q, rfl⟩ : ∃ q : Nat, m = (q : Int) := ⟨m.toNat, by omega⟩
    rw [idx_nat] at hr
    exact List.mem_of_getElem? hr
   exact ⟨r, true, by simp only [c', d', cond_false, Option.bind_some, h2, hm, hr], fun _ => allR_mem hmem⟩
 ·have c' : ((allR p).2 != 0) = true := by simp [c]
  exact ⟨(⟨0, 0, 0, [], [], [], [], [], false⟩ : Road), false, by simp [c'], by simp⟩
theorem ofF_steps {s : Int} {r : Road} (h : r ∈ ofF p s) : r.steps.length ≤ 12 := (ofF_road h).2.2.2.2.2.2.1
end
end Go.E
/- Plain Lean: which ports lie on the sides of a road (law SideApart). No condition. -/
namespace Go.E
open Go
section
variable {p : Plan} {n : Net}
end
end Go.E
/- Plain Lean: what the sides of a road reach, told without an order (Arr, ZoneR): the program's answer. No condition. -/
namespace Go.E
open Go
theorem aput_keys {κ υ : Type} [DecidableEq κ] (x : κ) (v : υ) : ∀ m : List (κ × υ), ((aput x v m).map (·.1) = m.map (·.1) ∧ x ∈ m.map (·.1)) ∨ ((aput x v m).map (·.1) = m.map (·.1) ++ [x] ∧ x ∉ m.map (·.1))
 | [] => .inr ⟨rfl, by simp⟩
 | q :: m => by
  unfold aput
  by_cases e : x = q.1
  ·subst e
   exact .inl ⟨by simp, by simp⟩
  ·have : (x == q.1) = false := beq_eq_false_iff_ne.2 e
   simp only [this, Bool.false_eq_true, if_false]
   rcases aput_keys x v m with ⟨h1, h2⟩ | ⟨h1, h2⟩
   ·exact .inl ⟨by simp only [List.map_cons, h1], by simp only [List.map_cons, List.mem_cons]; exact .inr h2⟩
   ·exact .inr ⟨by simp only [List.map_cons, h1, List.cons_append], by simp only [List.map_cons, List.mem_cons, not_or]; exact ⟨e, h2⟩⟩
theorem assoc_mem {κ υ : Type} [DecidableEq κ] (x : κ) : ∀ m : List (κ × υ), (assoc m x).isSome = true ↔ x ∈ m.map (·.1)
 | [] => by simp [assoc]
 | q :: m => by
  unfold assoc
  by_cases e : x = q.1
  ·simp [e]
  ·have : (x == q.1) = false := beq_eq_false_iff_ne.2 e
   simp only [this, Bool.false_eq_true, if_false, List.map_cons, List.mem_cons, e, false_or]
   exact assoc_mem x m
theorem aput_isSome {κ υ : Type} [DecidableEq κ] (x : κ) (v : υ) (m : List (κ × υ)) (y : κ) : (assoc (aput x v m) y).isSome = true ↔ y = x ∨ (assoc m y).isSome = true := by
 rw [assoc_aput']
 by_cases e : y = x <;> simp [e]
theorem aput_nodup {κ υ : Type} [DecidableEq κ] {x : κ} {v : υ} {m : List (κ × υ)} (h : (m.map (·.1)).Nodup) : ((aput x v m).map (·.1)).Nodup := by
 rcases aput_keys x v m with ⟨h1, h2⟩ | ⟨h1, h2⟩
 ·rw [h1]; exact h
 ·rw [h1, List.nodup_append]
  exact ⟨h, by simp, fun a ha b hb => by simp at hb; subst hb; intro e; subst e; exact h2 ha⟩
theorem aput_len {κ υ : Type} [DecidableEq κ] (x : κ) (v : υ) (m : List (κ × υ)) : (aput x v m).length ≤ m.length + 1 := by
 have : ((aput x v m).map (·.1)).length ≤ m.length + 1 := by
  rcases aput_keys x v m with ⟨h1, h2⟩ | ⟨h1, h2⟩ <;> rw [h1] <;> simp
 simpa using this
def seenB (vis : List (Port × Bool)) (x : Port) : Bool := (assoc vis x).getD false
theorem seenB_aput (vis : List (Port × Bool)) (x y : Port) : seenB (aput x true vis) y = true ↔ y = x ∨ seenB vis y = true := by
 unfold seenB
 rw [assoc_aput']
 by_cases e : y = x <;> simp [e]
theorem filter_less {α : Type} {P P' : α → Bool} (hpp : ∀ z, P' z = true → P z = true) : ∀ l : List α, (l.filter P').length ≤ (l.filter P).length ∧ ∀ x ∈ l, P x = true → P' x = false → (l.filter P').length + 1 ≤ (l.filter P).length
 | [] => ⟨Nat.le_refl _, by simp⟩
 | a :: l => by
  obtain ⟨h1, h2⟩ := filter_less hpp l
  rw [List.filter_cons, List.filter_cons]
  by_cases c : P' a = true
  ·rw [if_pos c, if_pos (hpp a c)]
   simp only [List.length_cons]
   refine ⟨by omega, fun x hx hp hp' => ?_⟩
   rcases List.mem_cons.1 hx with rfl | hx
   ·rw [c] at hp'; cases hp'
   ·have := h2 x hx hp hp'; omega
  ·rw [if_neg c]
   by_cases d : P a = true
   ·rw [if_pos d]
    simp only [List.length_cons]
    exact ⟨by omega, fun x hx hp hp' => by omega⟩
   ·rw [if_neg d]
    refine ⟨h1, fun x hx hp hp' => ?_⟩
    rcases List.mem_cons.1 hx with rfl | hx
    ·exact absurd hp d
    ·exact h2 x hx hp hp'
section
variable {p : Plan} {n : Net}
def shutP (p : Plan) (shut : List Bool) (x : Port) : Bool := decide (0 ≤ readsP p x) && (idx shut (readsP p x)).getD false
inductive Arr (p : Plan) (pos : List Int) (shut : List Bool) (st : List Step) : Port → Prop
 | init {x y : Port} : x ∈ portsF p st → nextP p x = some y → Arr p pos shut st y
 | step {x y : Port} {o : Int} : Arr p pos shut st x → x.elem ∉ st.map (·.elem) → shutP p shut x = false → kindP p x.elem ≠ 4 → throughP p x.elem x.fin (lieW pos x.elem) = some o → nextP p ⟨x.elem, o⟩ = some y → Arr p pos shut st y
def ZoneR (p : Plan) (pos : List Int) (shut : List Bool) (st : List Step) (e : Int) : Prop :=
 ∃ x, Arr p pos shut st x ∧ x.elem = e ∧ e ∉ st.map (·.elem) ∧ shutP p shut x = false ∧ (kindP p e = 4 ∨ (throughP p e x.fin (lieW pos e)).isSome = true)
variable {pos : List Int} {shut : List Bool} {r : Road}
theorem Arr.from {st : List Step} {y : Port} (h : Arr p pos shut st y) : ∃ x, nextP p x = some y := by
 cases h with
 | init h1 h2 => exact ⟨_, h2⟩
 | step _ _ _ _ _ h2 => exact ⟨_, h2⟩
theorem has_range {x : Port} (h : hasP p x = true) : 0 ≤ x.elem ∧ x.elem < p.elems.length := by
 obtain ⟨h1, h2, h3⟩ := hasP_fin h
 refine kind_range fun e => ?_
 rw [e] at h3
 simp [endsF] at h3
 omega
def doneB (vis : List (Port × Bool)) (zone : List (Int × Bool)) (p : Plan) (y : Port) : Prop := seenB vis y = true ∨ (kindP p y.elem = 4 ∧ (assoc zone y.elem).isSome = true)
def fullB (p : Plan) (pos : List Int) (shut : List Bool) (st : List Step) (q : List Port) (vis : List (Port × Bool)) (zone : List (Int × Bool)) (x : Port) : Prop :=
 x.elem ∉ st.map (·.elem) → shutP p shut x = false → kindP p x.elem ≠ 4 ∧ ∀ o, throughP p x.elem x.fin (lieW pos x.elem) = some o → (assoc zone x.elem).isSome = true ∧ ∀ y, nextP p ⟨x.elem, o⟩ = some y → y ∈ q ∨ doneB vis zone p y
def unv (p : Plan) (vis : List (Port × Bool)) : Nat := ((portsP p).filter fun x => !seenB vis x).length
structure RI (p : Plan) (pos : List Int) (shut : List Bool) (st : List Step) (M k : Nat) (q : List Port) (vis : List (Port × Bool)) (zone : List (Int × Bool)) : Prop where
 arr : ∀ x ∈ q, Arr p pos shut st x
 full : ∀ x, seenB vis x = true → fullB p pos shut st q vis zone x
 init : ∀ x y, x ∈ portsF p st → nextP p x = some y → y ∈ q ∨ doneB vis zone p y
 zon : ∀ e, (assoc zone e).isSome = true → ZoneR p pos shut st e
 nodup : (zone.map (·.1)).Nodup
 len : zone.length ≤ k
 meas : k + q.length + 2 * unv p vis ≤ M
theorem RI.next {st : List Step} {M k : Nat} {x : Port} {q q' : List Port} {vis vis' : List (Port × Bool)} {zone zone' : List (Int × Bool)} (h : RI p pos shut st M k (x :: q) vis zone)
  (hq : ∀ y ∈ q, y ∈ q') (hq2 : ∀ y ∈ q', Arr p pos shut st y) (hv : ∀ y, seenB vis y = true → seenB vis' y = true) (hv2 : ∀ y, seenB vis' y = true → seenB vis y = true ∨ y = x)
  (hz : ∀ e, (assoc zone e).isSome = true → (assoc zone' e).isSome = true) (hz2 : ∀ e, (assoc zone' e).isSome = true → ZoneR p pos shut st e) (hz3 : (zone'.map (·.1)).Nodup) (hz4 : zone'.length ≤ zone.length + 1)
  (hx : doneB vis' zone' p x) (hf : seenB vis' x = true → seenB vis x = false → fullB p pos shut st q' vis' zone' x) (hm : q'.length + 2 * unv p vis' ≤ q.length + 2 * unv p vis) : RI p pos shut st M (k + 1) q' vis' zone' := by
 have keep : ∀ y, (y ∈ x :: q ∨ doneB vis zone p y) → y ∈ q' ∨ doneB vis' zone' p y := by
  rintro y (hy | hy | ⟨hy, hy2⟩)
  ·rcases List.mem_cons.1 hy with rfl | hy
   ·exact .inr hx
   ·exact .inl (hq y hy)
  ·exact .inr (.inl (hv y hy))
  ·exact .inr (.inr ⟨hy, hz _ hy2⟩)
 refine ⟨hq2, fun y hy => ?_, fun a y ha hy => keep y (h.init a y ha hy), hz2, hz3, by have := h.len; omega, by have := h.meas; simp only [List.length_cons] at this; omega⟩
 have old : seenB vis y = true → fullB p pos shut st q' vis' zone' y := fun hy => fun h1 h2 => by
  obtain ⟨g1, g2⟩ := h.full y hy h1 h2
  exact ⟨g1, fun o ho => ⟨hz _ (g2 o ho).1, fun z hz' => keep z ((g2 o ho).2 z hz')⟩⟩
 rcases hv2 y hy with hy' | rfl
 ·exact old hy'
 ·cases c : seenB vis y with
  | true => exact old c
  | false => exact hf hy c
theorem slO_tail {α : Type} (x : α) (l : List α) : slO (x :: l) 1 (((x :: l).length : Nat) : Int) = some l := by
 show slI (x :: l) _ _ = _
 unfold slI
 rw [if_pos ⟨by omega, by simp; omega, by omega⟩]
 simp
theorem Reach_step (hn : NetOf p n) (hl : r.steps.length ≤ 1000) (x : Port) (q : List Port) (vis : List (Port × Bool)) (zone : List (Int × Bool)) (hx : 0 ≤ x.elem) (hq : q.length ≤ 1000000) :
  r_side_Reach_l2 n pos shut r (x :: q, vis, zone) = some (.inl (if seenB vis x = true ∨ x.elem ∈ r.steps.map (·.elem) ∨ shutP p shut x = true then (q, aput x true vis, zone) else if kindP p x.elem = 4 then (q, vis, aput x.elem true zone)
   else match throughP p x.elem x.fin (lieW pos x.elem) with
    | none => (q, aput x true vis, zone)
    | some o => match nextP p ⟨x.elem, o⟩ with
     | some y => (q ++ [y], aput x true vis, aput x.elem true zone)
     | none => (q, aput x true vis, aput x.elem true zone))) := by
 have d : decide ((0 : Int) < (((x :: q).length : Nat) : Int)) = true := by simp
 have e0 : idx (x :: q) 0 = some x := rfl
 have eb : (bif (assoc vis x).getD false then some true else (g_side_Own r x.elem).bind fun y850 => bif y850 then some true else bif decide (0 ≤ readsP p x) then bif decide (readsP p x < (shut.length : Int)) then (idx shut (readsP p x)).bind fun y856 => some y856 else some false else some false : Option Bool) = some (decide (seenB vis x = true ∨ x.elem ∈ r.steps.map (·.elem) ∨ shutP p shut x = true)) := by
  rw [Own_eq r (by omega)]
  have es : (bif decide (0 ≤ readsP p x) then bif decide (readsP p x < (shut.length : Int)) then (idx shut (readsP p x)).bind fun y856 => some y856 else some false else some false : Option Bool) = some (shutP p shut x) := by
   unfold shutP
   by_cases c : 0 ≤ readsP p x
   ·by_cases c2 : readsP p x < (shut.length : Int)
    ·obtain ⟨a, ha⟩ := idx_of (l := shut) (n := readsP p x) c c2
     simp [c, c2, ha]
    ·simp [c, c2, idx_none (l := shut) (.inr (by omega : (shut.length : Int) ≤ readsP p x))]
   ·simp [c]
  unfold seenB
  cases (assoc vis x).getD false with
  | true => simp
  | false =>
   simp only [cond_false, Option.bind_some, Bool.false_eq_true, false_or]
   by_cases c : x.elem ∈ r.steps.map (·.elem)
   ·rw [decide_eq_true c]; simp only [cond_true, c, true_or, decide_true]
   ·rw [decide_eq_false c]; simp only [cond_false, es, c, false_or]
    cases shutP p shut x <;> rfl
 have el : (bif decide (x.elem < (pos.length : Int)) then (idx pos x.elem).bind fun y876 => some y876 else some 0 : Option (Int)) = some (lieW pos x.elem) := by
  unfold lieW
  by_cases c2 : x.elem < (pos.length : Int)
  ·obtain ⟨a, ha⟩ := idx_of (l := pos) (n := x.elem) hx c2
   simp [c2, ha]
  ·simp [c2, idx_none (l := pos) (.inr (by omega : (pos.length : Int) ≤ x.elem))]
 unfold r_side_Reach_l2
 simp only [d, cond_true, e0, slO_tail, Option.bind_some, net_Reads hn, eb, el]
 by_cases c : seenB vis x = true ∨ x.elem ∈ r.steps.map (·.elem) ∨ shutP p shut x = true
 ·rw [if_pos c, decide_eq_true c]; simp only [cond_true]
 ·rw [if_neg c, decide_eq_false c]
  simp only [cond_false, net_Kind hn, Option.bind_some]
  by_cases k4 : kindP p x.elem = 4
  ·rw [if_pos k4, k4]; rfl
  ·rw [if_neg k4]
   have b4 : (kindP p x.elem == 4) = false := beq_eq_false_iff_ne.2 k4
   simp only [b4, cond_false, g_net_Net_From, net_Through hn, Option.bind_some]
   cases ht : throughP p x.elem x.fin (lieW pos x.elem) with
   | none => rfl
   | some o =>
    simp only [Option.isSome_some, Bool.not_true, cond_false, Option.getD_some, net_Next hn, Option.bind_some]
    cases hy : nextP p ⟨x.elem, o⟩ with
    | none => rfl
    | some y => simp only [Option.isSome_some, cond_true, Option.getD_some, appI_ok (show q.length + [y].length ≤ 4294967296 by simp; omega), Option.bind_some]
end
end Go.E
/- Plain Lean: the elements that Reach answers are those of ZoneR, ascending (laws SideShut, SideRuns). No condition. -/
namespace Go.E
open Go
theorem isort_strict {l : List Int} (h : l.Nodup) : (isort l).Pairwise (· < ·) := by
 have h1 := isort_rise l
 have h2 : (isort l).Nodup := (isort_perm l).nodup_iff.2 h
 exact (h1.and h2).imp fun {a b} ⟨x, y⟩ => by omega
section
variable {p : Plan} {n : Net} {pos : List Int} {shut : List Bool} {r : Road}
theorem done_all {st : List Step} {M k : Nat} {vis : List (Port × Bool)} {zone : List (Int × Bool)} (h : RI p pos shut st M k [] vis zone) : ∀ {x : Port}, Arr p pos shut st x → doneB vis zone p x := by
 intro x hx
 induction hx with
 | init h1 h2 => exact (h.init _ _ h1 h2).resolve_left (by simp)
 | step h1 h2 h3 h4 h5 h6 ih =>
  rcases ih with ih | ⟨ih, _⟩
  ·obtain ⟨g1, g2⟩ := h.full _ ih h2 h3
   exact ((g2 _ h5).2 _ h6).resolve_left (by simp)
  ·exact absurd ih h4
theorem zone_all {st : List Step} {M k : Nat} {vis : List (Port × Bool)} {zone : List (Int × Bool)} (h : RI p pos shut st M k [] vis zone) (e : Int) : e ∈ zone.map (·.1) ↔ ZoneR p pos shut st e := by
 rw [← assoc_mem]
 refine ⟨h.zon e, ?_⟩
 rintro ⟨x, h1, rfl, h2, h3, h4⟩
 rcases done_all h h1 with hd | ⟨_, hd⟩
 ·obtain ⟨g1, g2⟩ := h.full _ hd h2 h3
  rcases h4 with h4 | h4
  ·exact absurd h4 g1
  ·obtain ⟨o, ho⟩ := Option.isSome_iff_exists.1 h4
   exact (g2 o ho).1
 ·exact hd
theorem Arr.in_ports {st : List Step} {x : Port} (h : Arr p pos shut st x) : x ∈ portsP p := by
 obtain ⟨y, hy⟩ := h.from
 exact nextL_mem hy
theorem unv_le {vis : List (Port × Bool)} (x : Port) : unv p (aput x true vis) ≤ unv p vis :=
 (filter_less (fun z hz => by
  cases hs : seenB vis z with
  | false => rfl
  | true =>
   have := (seenB_aput vis x z).2 (.inr hs)
   simp only [this, Bool.not_true] at hz
   cases hz) (portsP p)).1
theorem unv_lt {vis : List (Port × Bool)} {x : Port} (hx : x ∈ portsP p) (hv : seenB vis x = false) : unv p (aput x true vis) + 1 ≤ unv p vis :=
 (filter_less (fun z hz => by
  cases hs : seenB vis z with
  | false => rfl
  | true =>
   have := (seenB_aput vis x z).2 (.inr hs)
   simp only [this, Bool.not_true] at hz
   cases hz) (portsP p)).2 x hx (by simp [hv]) (by simp [(seenB_aput vis x x).2 (.inl rfl)])
theorem Reach_round (hv : Valid p) (hn : NetOf p n) (hl : r.steps.length ≤ 1000) {M k : Nat} (hM : M ≤ 1000000) {x : Port} {q : List Port} {vis : List (Port × Bool)} {zone : List (Int × Bool)} (h : RI p pos shut r.steps M k (x :: q) vis zone) :
  ∃ s', r_side_Reach_l2 n pos shut r (x :: q, vis, zone) = some (.inl s') ∧ RI p pos shut r.steps M (k + 1) s'.1 s'.2.1 s'.2.2 := by
 have hx : Arr p pos shut r.steps x := h.arr x (by simp)
 obtain ⟨w, hw⟩ := hx.from
 have hr := has_range (hv.join.next hw)
 have hm := h.meas
 simp only [List.length_cons] at hm
 have hq2 : ∀ y ∈ q, Arr p pos shut r.steps y := fun y hy => h.arr y (by simp [hy])
 have hself : ∀ vis, seenB (aput x true vis) x = true := fun vis => (seenB_aput vis x x).2 (.inl rfl)
 have hvis : ∀ y, seenB (aput x true vis) y = true → seenB vis y = true ∨ y = x := fun y hy => ((seenB_aput vis x y).1 hy).symm
 have hvis2 : ∀ y, seenB vis y = true → seenB (aput x true vis) y = true := fun y hy => (seenB_aput vis x y).2 (.inr hy)
 have hul := unv_le (p := p) (vis := vis) x
 refine ⟨_, Reach_step hn hl x q vis zone hr.1 (by omega), ?_⟩
 by_cases c : seenB vis x = true ∨ x.elem ∈ r.steps.map (·.elem) ∨ shutP p shut x = true
 ·rw [if_pos c]
  dsimp only
  refine h.next (fun y hy => hy) hq2 hvis2 hvis (fun e he => he) h.zon h.nodup (by omega) (.inl (hself _)) (fun _ hs h1 h2 => ?_) (by omega)
  rcases c with c | c | c
  ·rw [c] at hs; cases hs
  ·exact absurd c h1
  ·rw [c] at h2; cases h2
 ·rw [if_neg c]
  have c1 : seenB vis x = false := by cases hs : seenB vis x with | false => rfl | true => exact absurd (.inl hs) c
  have c2 : x.elem ∉ r.steps.map (·.elem) := fun h => c (.inr (.inl h))
  have c3 : shutP p shut x = false := by cases hs : shutP p shut x with | false => rfl | true => exact absurd (.inr (.inr hs)) c
  have hlt := unv_lt hx.in_ports c1
  by_cases k4 : kindP p x.elem = 4
  ·rw [if_pos k4]
   dsimp only
   refine h.next (fun y hy => hy) hq2 (fun y hy => hy) (fun y hy => .inl hy) (fun e he => (aput_isSome _ _ _ _).2 (.inr he)) (fun e he => ?_) (aput_nodup h.nodup) (aput_len _ _ _) (.inr ⟨k4, (aput_isSome _ _ _ _).2 (.inl rfl)⟩) (fun h1 h2 => by rw [c1] at h1; cases h1) (by omega)
   rcases (aput_isSome _ _ _ _).1 he with rfl | he
   ·exact ⟨x, hx, rfl, c2, c3, .inl k4⟩
   ·exact h.zon e he
  ·rw [if_neg k4]
   cases ht : throughP p x.elem x.fin (lieW pos x.elem) with
   | none =>
    dsimp only
    exact h.next (fun y hy => hy) hq2 hvis2 hvis (fun e he => he) h.zon h.nodup (by omega) (.inl (hself _)) (fun _ _ h1 h2 => ⟨k4, fun o ho => by rw [ht] at ho; cases ho⟩) (by omega)
   | some o =>
    dsimp only
    have hz2 : ∀ e, (assoc (aput x.elem true zone) e).isSome = true → ZoneR p pos shut r.steps e := fun e he => by
     rcases (aput_isSome _ _ _ _).1 he with rfl | he
     ·exact ⟨x, hx, rfl, c2, c3, .inr (by rw [ht]; rfl)⟩
     ·exact h.zon e he
    cases hy : nextP p ⟨x.elem, o⟩ with
    | none =>
     dsimp only
     refine h.next (fun y hy => hy) hq2 hvis2 hvis (fun e he => (aput_isSome _ _ _ _).2 (.inr he)) hz2 (aput_nodup h.nodup) (aput_len _ _ _) (.inl (hself _)) (fun _ _ h1 h2 => ⟨k4, fun o' ho => ?_⟩) (by omega)
     rw [ht] at ho; cases ho
     exact ⟨(aput_isSome _ _ _ _).2 (.inl rfl), fun y hy' => by rw [hy] at hy'; cases hy'⟩
    | some y =>
     dsimp only
     refine h.next (fun z hz => List.mem_append.2 (.inl hz)) (fun z hz => ?_) hvis2 hvis (fun e he => (aput_isSome _ _ _ _).2 (.inr he)) hz2 (aput_nodup h.nodup) (aput_len _ _ _) (.inl (hself _)) (fun _ _ h1 h2 => ⟨k4, fun o' ho => ?_⟩) (by simp only [List.length_append, List.length_cons, List.length_nil]; omega)
     ·rcases List.mem_append.1 hz with hz | hz
      ·exact hq2 z hz
      ·simp at hz; subst hz; exact .step hx c2 c3 k4 ht hy
     ·rw [ht] at ho; cases ho
      exact ⟨(aput_isSome _ _ _ _).2 (.inl rfl), fun z hz => by rw [hy] at hz; cases hz; exact .inl (by simp)⟩
def startQ (p : Plan) (l : List Port) : List Port := l.map fun x => (nextP p x).getD ⟨0, 0⟩
theorem ports_joined {l : List Step} {x : Port} (h : x ∈ portsF p l) : ∃ y, nextP p x = some y := by
 unfold portsF portsS at h
 obtain ⟨s, _, h⟩ := List.mem_flatMap.1 h
 obtain ⟨k, _, h⟩ := List.mem_flatMap.1 h
 unfold joinK at h
 split at h
 ·rename_i hs
  simp at h
  subst h
  exact Option.isSome_iff_exists.1 hs
 ·simp at h
theorem RI_start (hv : Valid p) (hl : r.steps.length ≤ 12) : RI p pos shut r.steps 400 0 (startQ p (portsF p r.steps)) [] [] := by
 have h1 := portsF_len (p := p) r.steps
 have hj := hv.nj
 refine ⟨fun y hy => ?_, fun x hx => by simp [seenB, assoc] at hx, fun x y hx hy => .inl ?_, fun e he => by simp [assoc] at he, by simp, by simp, ?_⟩
 ·obtain ⟨x, hx, rfl⟩ := List.mem_map.1 hy
  obtain ⟨y, hy⟩ := ports_joined hx
  rw [hy]
  exact .init hx hy
 ·exact List.mem_map.2 ⟨x, hx, by rw [hy]; rfl⟩
 ·have : unv p [] ≤ (portsP p).length := List.length_filter_le _ _
  have h2 : (portsP p).length = 2 * p.joins.length := flat_len2 _
  simp only [startQ, List.length_map]
  omega
theorem Reach_spec (hv : Valid p) (hn : NetOf p n) (hl : r.steps.length ≤ 12) (pos : List Int) (shut : List Bool) : ∃ l, g_side_Reach n pos shut r = some l ∧ l.Pairwise (· < ·) ∧ (∀ e, e ∈ l ↔ ZoneR p pos shut r.steps e) ∧ l.length ≤ 400 := by
 rw [reach_eq]
 unfold r_side_Reach
 simp only [Ports_eq hn r (by omega), Option.bind_some]
 have hp := portsF_len (p := p) r.steps
 obtain ⟨b, h1, h2⟩ := loop_st (l := portsF p r.steps) (step := r_side_Reach_l1 n pos shut r (portsF p r.steps)) (Post := fun l => l.Pairwise (· < ·) ∧ (∀ e, e ∈ l ↔ ZoneR p pos shut r.steps e) ∧ l.length ≤ 400) (fun i q => q = startQ p ((portsF p r.steps).take i)) (c := [])
  (fun q hq => by
   rw [List.take_length] at hq
   subst hq
   obtain ⟨l, h3, h4⟩ := loop_up (step := r_side_Reach_l2 n pos shut r) (Post := fun l => l.Pairwise (· < ·) ∧ (∀ e, e ∈ l ↔ ZoneR p pos shut r.steps e) ∧ l.length ≤ 400) (fun k s => RI p pos shut r.steps 400 k s.1 s.2.1 s.2.2) 400 (s := (startQ p (portsF p r.steps), [], [])) (by
    rintro k ⟨q, vis, zone⟩ h
    cases q with
    | nil =>
     left
     have hlen := h.len
     have hm := h.meas
     refine ⟨isort (zone.map (·.1)), ?_, isort_strict h.nodup, fun e => ?_, ?_⟩
     ·unfold r_side_Reach_l2 keysF
      simp only at hlen
      rw [if_pos (by simp only; omega)]
      rfl
     ·rw [(isort_perm _).mem_iff]; exact zone_all h e
     ·rw [(isort_perm _).length_eq, List.length_map]; simp only at hlen; omega
    | cons x q =>
     right
     have hm := h.meas
     simp only [List.length_cons] at hm
     exact ⟨by omega, Reach_round hv hn (by omega) (by omega) h⟩) (RI_start hv hl)
   exact ⟨l, by simp only [r_side_Reach_l1, dge, cond_false, h3, Option.map_some], h4⟩)
  (fun i x q hx hq => by
   have hi := ilt hx
   refine .inr ⟨q ++ [(nextP p x).getD ⟨0, 0⟩], ?_, ?_⟩
   ·have : q.length ≤ 24 := by rw [hq]; unfold startQ; rw [List.length_map, List.length_take]; omega
    simp only [r_side_Reach_l1, dlt hx, cond_true, idx_nat, hx, Option.bind_some, net_Next hn, appI_ok (show q.length + [(nextP p x).getD (⟨0, 0⟩ : Port)].length ≤ 4294967296 by simp; omega), wi64_succ (show i < 1000000000 by omega)]
   ·rw [hq, List.take_add_one, hx]
    unfold startQ
    simp only [Option.toList_some, List.map_append, List.map_cons, List.map_nil])
  rfl
 exact ⟨b, h1, h2⟩
theorem shut_mono {a b : List Bool} (h : ∀ j : Nat, a[j]? = some true → b[j]? = some true) {x : Port} (hs : shutP p b x = false) : shutP p a x = false := by
 unfold shutP at *
 by_cases c : 0 ≤ readsP p x
 ·obtain ⟨i, hi⟩ := Int.eq_ofNat_of_zero_le c
  rw [hi] at hs ⊢
  simp only [idx_nat, Int.natCast_nonneg, decide_true, Bool.true_and] at hs ⊢
  cases ha : a[i]? with
  | none => rfl
  | some v =>
   cases v with
   | false => rfl
   | true => rw [h i ha] at hs; cases hs
 ·simp [c]
theorem Arr.mono {a b : List Bool} (h : ∀ j : Nat, a[j]? = some true → b[j]? = some true) {st : List Step} {x : Port} (hx : Arr p pos b st x) : Arr p pos a st x := by
 induction hx with
 | init h1 h2 => exact .init h1 h2
 | step h1 h2 h3 h4 h5 h6 ih => exact .step ih h2 (shut_mono h h3) h4 h5 h6
theorem ZoneR.mono {a b : List Bool} (h : ∀ j : Nat, a[j]? = some true → b[j]? = some true) {st : List Step} {e : Int} (hx : ZoneR p pos b st e) : ZoneR p pos a st e := by
 obtain ⟨x, h1, h2, h3, h4, h5⟩ := hx
 exact ⟨x, h1.mono h, h2, h3, shut_mono h h4, h5⟩
theorem ZoneR.range (hv : Valid p) {st : List Step} {e : Int} (h : ZoneR p pos shut st e) : 0 ≤ e ∧ e < p.elems.length := by
 obtain ⟨x, h1, rfl, _⟩ := h
 obtain ⟨w, hw⟩ := h1.from
 exact has_range (hv.join.next hw)
end
end Go.E
/- Plain Lean: what is reached is in order, outside the road, and no more if more signals are shut (law SideShut); a run that comes in from the side begins in it (law SideRuns). No condition. -/
namespace Go.E
open Go
section
variable {p : Plan} {n : Net} {pos : List Int} {shut : List Bool} {r : Road}
end
end Go.E
/- Plain Lean: a run that comes in from the side begins in an element that is reached (law SideRuns). No condition. -/
namespace Go.E
open Go
section
variable {p : Plan} {n : Net} {pos : List Int} {shut : List Bool} {r : Road}
end
end Go.E
/- Plain Lean: what the sides of a road reach: the document's answer and the program's are one (law SideReaches). No condition. -/
namespace Go.E
open Go
section
variable {p : Plan} {n : Net} {pos : List Int} {shut : List Bool} {r : Road}
end
end Go.E
/- The example that the laws of flanks look at, reckoned by the kernel. No condition. -/
namespace Go.E
open Go Go.Proofs
set_option maxRecDepth 100000
theorem known9 : g_L9_known = some true := by kernel_rfl
end Go.E
/- Plain Lean: the flank of a road: how its search begins; a road without side ports (law FlankNone). No condition. -/
namespace Go.E
open Go
theorem contains_int (l : List Int) (hl : l.length < 1000000) (x : Int) : g_slices_Contains_int l x = some (decide (x ∈ l)) := by
 unfold g_slices_Contains_int g_slices_Index_int
 obtain ⟨t, h1, h2⟩ := index_loop (l := l) (f := fun a => x == a) hl (step := g_slices_Index_int_l1 l x) (by simp [g_slices_Index_int_l1]) (fun i a ha => by
  have := ilt ha
  simp only [g_slices_Index_int_l1, dlt ha, cond_true, idx_nat, ha, Option.bind_some, wi64_succ (show i < 1000000000 by omega)]
  cases hb : (x == a) <;> simp)
 rw [h1]
 simp only [Option.bind_some, Option.some.injEq]
 rcases h2 with ⟨rfl, h2⟩ | ⟨a, h0, h2, _⟩
 ·have : x ∉ l := fun h => by have := List.find?_eq_none.1 h2 x h; simp at this
  simp [this]
 ·have hm := List.mem_of_find?_eq_some h2
  have he := List.find?_some h2
  simp only [beq_iff_eq] at he
  subst he
  simp [h0, hm]
theorem contains_need (l : List Need) (hl : l.length < 1000000) (x : Need) : g_slices_Contains_apiNeed l x = some (decide (x ∈ l)) := by
 unfold g_slices_Contains_apiNeed g_slices_Index_apiNeed
 obtain ⟨t, h1, h2⟩ := index_loop (l := l) (f := fun a => x == a) hl (step := g_slices_Index_apiNeed_l1 l x) (by simp [g_slices_Index_apiNeed_l1]) (fun i a ha => by
  have := ilt ha
  simp only [g_slices_Index_apiNeed_l1, dlt ha, cond_true, idx_nat, ha, Option.bind_some, wi64_succ (show i < 1000000000 by omega)]
  cases hb : (x == a) <;> simp)
 rw [h1]
 simp only [Option.bind_some, Option.some.injEq]
 rcases h2 with ⟨rfl, h2⟩ | ⟨a, h0, h2, _⟩
 ·have : x ∉ l := fun h => by have := List.find?_eq_none.1 h2 x h; simp at this
  simp [this]
 ·have hm := List.mem_of_find?_eq_some h2
  have he := List.find?_some h2
  simp only [beq_iff_eq] at he
  subst he
  simp [h0, hm]
section
variable {p : Plan} {n : Net} {r : Road}
theorem flank_start (hv : Valid p) (hn : NetOf p n) (h1 : r.steps.length ≤ 12) (h2 : r.needs.length ≤ 1000) : g_flank_Of n r = loopR (g_flank_Of_l2 n r r.steps r.needs p) (false, [], [], [], [], (startQ p (portsF p r.steps)).reverse) := by
 unfold g_flank_Of
 have e1 : g_slices_Clone_apiStep r.steps = some r.steps := clone_eq _ (by omega)
 have e2 : g_slices_Clone_apiNeed r.needs = some r.needs := clone_eq _ (by omega)
 have e3 : g_net_Net_Plan n = some p := by unfold g_net_Net_Plan; rw [hn.plan, twin_eq p hv.few]; rfl
 simp only [e1, e2, e3, Option.bind_some, Ports_eq hn (⟨r.frm, r.to, r.fin, r.steps, r.needs, [], [], [], false⟩ : Road) (show r.steps.length ≤ 1000 by omega)]
 have hp := portsF_len (p := p) r.steps
 generalize hL : portsF p r.steps = L at hp
 have key : ∀ (k : Nat) (q : List Port), k ≤ L.length → q = (startQ p (L.drop k)).reverse → loopR (g_flank_Of_l1 n r r.steps r.needs p L) ((k : Int) - 1, q) = loopR (g_flank_Of_l2 n r r.steps r.needs p) (false, [], [], [], [], (startQ p L).reverse) := by
  intro k
  induction k with
  | zero =>
   intro q _ hq
   rw [List.drop_zero] at hq
   subst hq
   cases hr : loopR (g_flank_Of_l2 n r r.steps r.needs p) (false, [], [], [], [], (startQ p L).reverse) with
   | some b =>
    refine loopR_inr ?_
    have d : decide ((0 : Int) ≤ ((0 : Nat) : Int) - 1) = false := by decide
    simp only [g_flank_Of_l1, d, cond_false, hr, Option.map_some]
   | none =>
    rw [loopR_eq]
    have d : decide ((0 : Int) ≤ ((0 : Nat) : Int) - 1) = false := by decide
    simp only [g_flank_Of_l1, d, cond_false, hr, Option.map_none]
  | succ k ih =>
   intro q hk hq
   obtain ⟨x, hx⟩ : ∃ x, L[k]? = some x := ⟨_, List.getElem?_eq_getElem (by omega)⟩
   have hql : q.length ≤ 24 := by rw [hq]; unfold startQ; simp; omega
   have hd : L.drop k = x :: L.drop (k + 1) := by
    obtain ⟨h, e⟩ := List.getElem?_eq_some_iff.1 hx
    rw [List.drop_eq_getElem_cons h, e]
   rw [← ih (q ++ [(nextP p x).getD ⟨0, 0⟩]) (by omega) (by rw [hd, hq]; unfold startQ; simp)]
   refine loopR_inl ?_
   have d : decide ((0 : Int) ≤ (k : Int)) = true := decide_eq_true (by omega)
   have e : (((k + 1 : Nat) : Int) - 1) = (k : Int) := by omega
   have w : wi64 ((k : Int) - 1) = (k : Int) - 1 := by rw [wi64_id] <;> omega
   simp only [g_flank_Of_l1, d, cond_true, e, idx_nat, hx, Option.bind_some, net_Next hn, appI_ok (show q.length + [(nextP p x).getD (⟨0, 0⟩ : Port)].length ≤ 4294967296 by simp; omega), w]
 have w : wi64 ((L.length : Int) - 1) = (L.length : Int) - 1 := by rw [wi64_id] <;> omega
 rw [w]
 exact key L.length [] (Nat.le_refl _) (by simp [startQ])
end
end Go.E
/- Plain Lean: the flank of a road: one round of its search; what holds behind it. No condition. -/
namespace Go.E
open Go
section
variable {p : Plan} {n : Net} {r : Road}
def takeZ (b : Bool) (z : List Int) (e : Int) : Bool × Bool × List Int := if e ∈ z then (true, b, z) else if 12 ≤ z.length then (false, true, z) else (true, b, z ++ [e])
def pushN (p : Plan) (l : List Port) (x : Port) : List Port := match nextP p x with
 | some y => l ++ [y]
 | none => l
abbrev FS := Bool × List (Port × Bool) × List Need × List Int × List Int × List Port
def fstep (p : Plan) (st : List Step) (nd : List Need) (b : Bool) (vis : List (Port × Bool)) (g : List Need) (z h : List Int) (l : List Port) (x : Port) : FS :=
 if x.elem ∈ st.map (·.elem) ∨ seenB vis x = true then (b, vis, g, z, h, l)
 else if 0 ≤ readsP p x ∧ p.hard = false then (b, aput x true vis, g, z, if readsP p x ∈ h then h else h ++ [readsP p x], l)
 else if kindP p x.elem = 4 then (true, aput x true vis, g, z, h, l)
 else if kindP p x.elem = 2 then
  if x.fin = 0 then ((takeZ b z x.elem).2.1, aput x true vis, g, (takeZ b z x.elem).2.2, h, if (takeZ b z x.elem).1 then pushN p (pushN p l ⟨x.elem, 2⟩) ⟨x.elem, 1⟩ else l)
  else if ⟨x.elem, x.fin⟩ ∈ nd ∨ ⟨x.elem, x.fin⟩ ∈ g then ((takeZ b z x.elem).2.1, aput x true vis, g, (takeZ b z x.elem).2.2, h, if (takeZ b z x.elem).1 then pushN p l ⟨x.elem, 0⟩ else l)
  else (b, aput x true vis, if ⟨x.elem, wi64 (3 - x.fin)⟩ ∈ g then g else g ++ [⟨x.elem, wi64 (3 - x.fin)⟩], z, h, l)
 else match throughP p x.elem x.fin 0 with
  | none => (b, aput x true vis, g, z, h, l)
  | some o => ((takeZ b z x.elem).2.1, aput x true vis, g, (takeZ b z x.elem).2.2, h, if (takeZ b z x.elem).1 then pushN p l ⟨x.elem, o⟩ else l)
theorem takeZ_eq (b : Bool) (z : List Int) (e : Int) (hz : z.length ≤ 1000) : ((g_slices_Contains_int z e).bind fun y => bif y then some (true, b, z) else bif decide (12 ≤ (z.length : Int)) then some (false, true, z) else (appI z [e]).bind fun y' => some (true, b, y') : Option (Bool × Bool × List Int)) = some (takeZ b z e) := by
 rw [contains_int z (by omega)]
 unfold takeZ
 simp only [Option.bind_some]
 by_cases c : e ∈ z
 ·rw [decide_eq_true c, if_pos c]; rfl
 ·rw [decide_eq_false c, if_neg c]
  by_cases d : 12 ≤ z.length
  ·rw [if_pos d, decide_eq_true (show (12 : Int) ≤ (z.length : Int) by omega)]; rfl
  ·rw [if_neg d, decide_eq_false (show ¬ (12 : Int) ≤ (z.length : Int) by omega)]
   simp only [cond_false, appI_ok (show z.length + [e].length ≤ 4294967296 by simp; omega), Option.bind_some]
theorem pushN_eq (hn : NetOf p n) (l : List Port) (x : Port) (hl : l.length ≤ 1000000) : ((g_net_Net_Next n x).bind fun y => bif y.2 then (appI l [y.1]).bind fun y' => some y' else some l : Option (List Port)) = some (pushN p l x) := by
 rw [net_Next hn]
 unfold pushN
 cases nextP p x with
 | none => rfl
 | some y => simp only [Option.bind_some, Option.isSome_some, Option.getD_some, cond_true, appI_ok (show l.length + [y].length ≤ 4294967296 by simp; omega)]
theorem pushN_len (l : List Port) (x : Port) : (pushN p l x).length ≤ l.length + 1 := by unfold pushN; split <;> simp
theorem flank_step (hn : NetOf p n) (h1 : r.steps.length ≤ 12) (h2 : r.needs.length ≤ 1000) (b : Bool) (vis : List (Port × Bool)) (g : List Need) (z h : List Int) (l : List Port) (x : Port) (hg : g.length ≤ 1000) (hz : z.length ≤ 1000) (hh : h.length ≤ 1000) (hl : l.length ≤ 1000) :
  g_flank_Of_l2 n r r.steps r.needs p (b, vis, g, z, h, l ++ [x]) = some (.inl (fstep p r.steps r.needs b vis g z h l x)) := by
 have d : decide ((0 : Int) < (((l ++ [x]).length : Nat) : Int)) = true := by simp
 have w := wl_snoc l x (by omega)
 have i1 := idx_sn x (rfl : l.length = l.length)
 have s1 := slO_at x (rfl : l.length = l.length)
 have own := Own_eq (⟨r.frm, r.to, r.fin, r.steps, r.needs, g, z, h, b⟩ : Road) (show r.steps.length < 1000000 by omega) x.elem
 have tz := takeZ_eq b z x.elem hz
 have vb : (assoc vis x).getD false = seenB vis x := rfl
 unfold g_flank_Of_l2 fstep
 simp only [d, cond_true, w, i1, s1, own, Option.bind_some, vb]
 by_cases c : x.elem ∈ r.steps.map (·.elem) ∨ seenB vis x = true
 ·rw [if_pos c]
  rcases c with c | c
  ·rw [decide_eq_true c]; rfl
  ·rw [c]; cases decide (x.elem ∈ r.steps.map (·.elem)) <;> rfl
 ·rw [if_neg c]
  have c1 : x.elem ∉ r.steps.map (·.elem) := fun h => c (.inl h)
  have c2 : seenB vis x = false := by cases hs : seenB vis x with | false => rfl | true => exact absurd (.inr hs) c
  rw [decide_eq_false c1, c2]
  simp only [cond_false, Option.bind_some, net_Reads hn]
  by_cases k1 : 0 ≤ readsP p x ∧ p.hard = false
  ·rw [if_pos k1, decide_eq_true k1.1, k1.2]
   simp only [cond_true, Bool.not_false, Option.bind_some, contains_int h (show h.length < 1000000 by omega)]
   by_cases m : readsP p x ∈ h
   ·rw [decide_eq_true m, if_pos m]; rfl
   ·rw [decide_eq_false m, if_neg m]
    simp only [Bool.not_false, cond_true, appI_ok (show h.length + [readsP p x].length ≤ 4294967296 by simp; omega), Option.bind_some]
  ·rw [if_neg k1]
   have eb : (bif decide (0 ≤ readsP p x) then some (!p.hard) else some false : Option Bool) = some false := by
    by_cases a : 0 ≤ readsP p x
    ·rw [decide_eq_true a]
     cases hp : p.hard with
     | true => rfl
     | false => exact absurd ⟨a, hp⟩ k1
    ·rw [decide_eq_false a]; rfl
   simp only [eb, Option.bind_some, cond_false, net_Kind hn]
   by_cases k4 : kindP p x.elem = 4
   ·rw [if_pos k4, k4]; rfl
   ·rw [if_neg k4]
    have b4 : (kindP p x.elem == 4) = false := beq_eq_false_iff_ne.2 k4
    simp only [b4, cond_false]
    by_cases k2 : kindP p x.elem = 2
    ·rw [if_pos k2, k2]
     simp only [beq_self_eq_true, cond_true]
     by_cases f0 : x.fin = 0
     ·rw [if_pos f0]
      have bf : (x.fin == 0) = true := by simp [f0]
      simp only [bf, cond_true, tz, Option.bind_some]
      have q1 := pushN_len (p := p) l ⟨x.elem, 2⟩
      cases ht : (takeZ b z x.elem).1 with
      | true => simp only [cond_true, pushN_eq hn l ⟨x.elem, 2⟩ (by omega), Option.bind_some, pushN_eq hn (pushN p l ⟨x.elem, 2⟩) ⟨x.elem, 1⟩ (by omega), if_true]
      | false => simp only [cond_false, Option.bind_some, Bool.false_eq_true, if_false]
     ·rw [if_neg f0]
      have bf : (x.fin == 0) = false := beq_eq_false_iff_ne.2 f0
      simp only [bf, cond_false, contains_need r.needs (show r.needs.length < 1000000 by omega), contains_need g (show g.length < 1000000 by omega), Option.bind_some]
      have en : (bif decide ((⟨x.elem, x.fin⟩ : Need) ∈ r.needs) then some true else some (decide ((⟨x.elem, x.fin⟩ : Need) ∈ g)) : Option Bool) = some (decide ((⟨x.elem, x.fin⟩ : Need) ∈ r.needs ∨ (⟨x.elem, x.fin⟩ : Need) ∈ g)) := by
       by_cases a : (⟨x.elem, x.fin⟩ : Need) ∈ r.needs
       ·simp [a]
       ·simp [a]
      simp only [en, Option.bind_some]
      by_cases a : (⟨x.elem, x.fin⟩ : Need) ∈ r.needs ∨ (⟨x.elem, x.fin⟩ : Need) ∈ g
      ·rw [if_pos a, decide_eq_true a]
       simp only [cond_true, tz, Option.bind_some]
       cases ht : (takeZ b z x.elem).1 with
       | true => simp only [cond_true, pushN_eq hn l ⟨x.elem, 0⟩ (by omega), Option.bind_some, if_true]
       | false => simp only [cond_false, Option.bind_some, Bool.false_eq_true, if_false]
      ·rw [if_neg a, decide_eq_false a]
       simp only [cond_false]
       by_cases m : (⟨x.elem, wi64 (3 - x.fin)⟩ : Need) ∈ g
       ·rw [decide_eq_true m, if_pos m]; rfl
       ·rw [decide_eq_false m, if_neg m]
        simp only [Bool.not_false, cond_true, appI_ok (show g.length + [(⟨x.elem, wi64 (3 - x.fin)⟩ : Need)].length ≤ 4294967296 by simp; omega), Option.bind_some]
    ·rw [if_neg k2]
     have b2 : (kindP p x.elem == 2) = false := beq_eq_false_iff_ne.2 k2
     simp only [b2, cond_false, g_net_Net_From, net_Through hn, Option.bind_some]
     cases ht : throughP p x.elem x.fin 0 with
     | none => rfl
     | some o =>
      simp only [Option.isSome_some, cond_true, Option.getD_some, tz, Option.bind_some]
      cases htz : (takeZ b z x.elem).1 with
      | true => simp only [cond_true, pushN_eq hn l ⟨x.elem, o⟩ (by omega), Option.bind_some, if_true]
      | false => simp only [cond_false, Bool.false_eq_true, if_false]
end
end Go.E
/- Plain Lean: the flank of a road: what holds of zone, guards and holds; the search ends (laws FlankAgain, FlankApart). No condition. -/
namespace Go.E
open Go
section
variable {p : Plan} {n : Net} {r : Road}
structure ZOK (p : Plan) (st : List Step) (z : List Int) : Prop where
 len : z.length ≤ 12
 nd : z.Nodup
 own : ∀ e ∈ z, e ∉ st.map (·.elem) ∧ kindP p e ≠ 4
 rng : ∀ e ∈ z, kindP p e ≠ 0
structure GOK (p : Plan) (st : List Step) (g : List Need) : Prop where
 ok : ∀ m ∈ g, m.elem ∉ st.map (·.elem) ∧ kindP p m.elem = 2 ∧ (m.pos = 1 ∨ m.pos = 2)
 nd : g.Pairwise (fun a b => a.elem ≠ b.elem)
theorem takeZ_ok {st : List Step} {b : Bool} {z : List Int} {e : Int} (h : ZOK p st z) (h1 : e ∉ st.map (·.elem)) (h2 : kindP p e ≠ 4) (h3 : kindP p e ≠ 0) : ZOK p st (takeZ b z e).2.2 := by
 unfold takeZ
 split
 ·exact h
 ·rename_i hm
  split
  ·exact h
  ·rename_i hl
   refine ⟨by simp; omega, ?_, fun a ha => ?_, fun a ha => ?_⟩
   ·simp only
    rw [List.nodup_append]
    exact ⟨h.nd, by simp, fun a ha c hc => by simp at hc; subst hc; intro e; subst e; exact hm ha⟩
   ·rcases List.mem_append.1 ha with ha | ha
    ·exact h.own a ha
    ·simp at ha; subst ha; exact ⟨h1, h2⟩
   ·rcases List.mem_append.1 ha with ha | ha
    ·exact h.rng a ha
    ·simp at ha; subst ha; exact h3
theorem next_port {x y : Port} (h : nextP p x = some y) : y ∈ portsP p := nextL_mem h
theorem pushN_mem {l : List Port} {x y : Port} (h : y ∈ pushN p l x) : y ∈ l ∨ y ∈ portsP p := by
 unfold pushN at h
 cases hx : nextP p x with
 | none => rw [hx] at h; exact .inl h
 | some z =>
  rw [hx] at h
  rcases List.mem_append.1 h with h | h
  ·exact .inl h
  ·simp at h; subst h; exact .inr (next_port hx)
structure FI (p : Plan) (st : List Step) (M k : Nat) (vis : List (Port × Bool)) (g : List Need) (z h : List Int) (l : List Port) : Prop where
 zok : ZOK p st z
 gok : GOK p st g
 hold : p.hard = true → h = []
 port : ∀ x ∈ l, x ∈ portsP p
 lg : g.length ≤ k
 lh : h.length ≤ k
 meas : k + l.length + 3 * unv p vis ≤ M
theorem FI_step (hv : Valid p) {st : List Step} {nd : List Need} {M k : Nat} {b : Bool} {vis : List (Port × Bool)} {g : List Need} {z h : List Int} {l : List Port} {x : Port} (hi : FI p st M k vis g z h (l ++ [x])) {s : FS} (hs : s = fstep p st nd b vis g z h l x) :
  FI p st M (k + 1) s.2.1 s.2.2.1 s.2.2.2.1 s.2.2.2.2.1 s.2.2.2.2.2 := by
 have hm := hi.meas
 simp only [List.length_append, List.length_cons, List.length_nil] at hm
 have hx : x ∈ portsP p := hi.port x (by simp)
 have hl : ∀ y ∈ l, y ∈ portsP p := fun y hy => hi.port y (by simp [hy])
 have hlg := hi.lg
 have hlh := hi.lh
 have hul := unv_le (p := p) (vis := vis) x
 have hhas : hasP p x = true := by
  obtain ⟨i, hi⟩ := List.mem_iff_getElem?.1 hx
  exact hv.join.has i x hi
 unfold fstep at hs
 by_cases c : x.elem ∈ st.map (·.elem) ∨ seenB vis x = true
 ·rw [if_pos c] at hs
  subst hs
  exact ⟨hi.zok, hi.gok, hi.hold, hl, by dsimp only; omega, by dsimp only; omega, by dsimp only; omega⟩
 ·rw [if_neg c] at hs
  have c1 : x.elem ∉ st.map (·.elem) := fun h => c (.inl h)
  have c2 : seenB vis x = false := by cases hs : seenB vis x with | false => rfl | true => exact absurd (.inr hs) c
  have hlt := unv_lt hx c2
  by_cases k1 : 0 ≤ readsP p x ∧ p.hard = false
  ·rw [if_pos k1] at hs
   subst hs
   refine ⟨hi.zok, hi.gok, fun hh => (by rw [k1.2] at hh; cases hh), hl, by dsimp only; omega, ?_, by dsimp only; omega⟩
   dsimp only
   split
   ·omega
   ·simp; omega
  ·rw [if_neg k1] at hs
   by_cases k4 : kindP p x.elem = 4
   ·rw [if_pos k4] at hs
    subst hs
    exact ⟨hi.zok, hi.gok, hi.hold, hl, by dsimp only; omega, by dsimp only; omega, by dsimp only; omega⟩
   ·rw [if_neg k4] at hs
    have k0 : kindP p x.elem ≠ 0 := fun e => by
     obtain ⟨f1, f2, f3⟩ := hasP_fin hhas
     rw [e] at f3
     simp [endsF] at f3
     omega
    have hz := takeZ_ok (b := b) hi.zok c1 k4 k0
    have p1 : ∀ y, (pushN p l y).length ≤ l.length + 1 := fun y => pushN_len l y
    by_cases k2 : kindP p x.elem = 2
    ·rw [if_pos k2] at hs
     by_cases f0 : x.fin = 0
     ·rw [if_pos f0] at hs
      subst hs
      refine ⟨hz, hi.gok, hi.hold, fun y hy => ?_, by dsimp only; omega, by dsimp only; omega, ?_⟩
      ·dsimp only at hy
       split at hy
       ·rcases pushN_mem hy with hy | hy
        ·rcases pushN_mem hy with hy | hy
         ·exact hl y hy
         ·exact hy
        ·exact hy
       ·exact hl y hy
      ·dsimp only
       have q1 := p1 ⟨x.elem, 2⟩
       have q2 := pushN_len (p := p) (pushN p l ⟨x.elem, 2⟩) ⟨x.elem, 1⟩
       split <;> omega
     ·rw [if_neg f0] at hs
      by_cases a : (⟨x.elem, x.fin⟩ : Need) ∈ nd ∨ (⟨x.elem, x.fin⟩ : Need) ∈ g
      ·rw [if_pos a] at hs
       subst hs
       refine ⟨hz, hi.gok, hi.hold, fun y hy => ?_, by dsimp only; omega, by dsimp only; omega, ?_⟩
       ·dsimp only at hy
        split at hy
        ·rcases pushN_mem hy with hy | hy
         ·exact hl y hy
         ·exact hy
        ·exact hl y hy
       ·dsimp only
        have q1 := p1 ⟨x.elem, 0⟩
        split <;> omega
      ·rw [if_neg a] at hs
       subst hs
       obtain ⟨f1, f2, f3⟩ := hasP_fin hhas
       rw [k2] at f3
       simp [endsF] at f3
       have hw : wi64 (3 - x.fin) = 3 - x.fin := by rw [wi64_id] <;> omega
       refine ⟨hi.zok, ?_, hi.hold, hl, ?_, by dsimp only; omega, by dsimp only; omega⟩
       ·dsimp only
        split
        ·exact hi.gok
        ·rename_i hng
         refine ⟨fun m hm => ?_, ?_⟩
         ·rcases List.mem_append.1 hm with hm | hm
          ·exact hi.gok.ok m hm
          ·simp at hm; subst hm; exact ⟨c1, k2, by rw [hw]; simp only; omega⟩
         ·rw [List.pairwise_append]
          refine ⟨hi.gok.nd, by simp, fun m hm q hq => ?_⟩
          simp at hq
          subst hq
          intro he
          simp only at he
          obtain ⟨_, _, hp⟩ := hi.gok.ok m hm
          have e1 : m = ⟨x.elem, m.pos⟩ := by cases m; simp only at he; subst he; rfl
          by_cases e : m.pos = x.fin
          ·rw [e] at e1; rw [e1] at hm; exact a (.inr hm)
          ·have : m.pos = 3 - x.fin := by omega
           rw [this, ← hw] at e1; rw [e1] at hm; exact hng hm
       ·dsimp only
        split
        ·omega
        ·simp; omega
    ·rw [if_neg k2] at hs
     cases ht : throughP p x.elem x.fin 0 with
     | none =>
      rw [ht] at hs
      subst hs
      exact ⟨hi.zok, hi.gok, hi.hold, hl, by dsimp only; omega, by dsimp only; omega, by dsimp only; omega⟩
     | some o =>
      rw [ht] at hs
      subst hs
      refine ⟨hz, hi.gok, hi.hold, fun y hy => ?_, by dsimp only; omega, by dsimp only; omega, ?_⟩
      ·dsimp only at hy
       split at hy
       ·rcases pushN_mem hy with hy | hy
        ·exact hl y hy
        ·exact hy
       ·exact hl y hy
      ·dsimp only
       have q1 := p1 ⟨x.elem, o⟩
       split <;> omega
end
end Go.E
/- Plain Lean: zone, guards and holds of a road's flank (law FlankApart). No condition. -/
namespace Go.E
open Go
section
variable {p : Plan} {n : Net} {r : Road}
end
end Go.E
/- Plain Lean: one call of the document's search for the flank, in a clean form. No condition. -/
namespace Go.E
open Go
section
variable {p : Plan} {n : Net} {r : Road}
end
end Go.E
/- Plain Lean: the document's search for the flank and the program's loop: one call is as good as one port on the stack. No condition. -/
namespace Go.E
open Go
section
variable {p : Plan} {n : Net} {r : Road}
end
end Go.E
/- Plain Lean: the flank of a road: the document's answer and the program's are one (law FlankOfs). No condition. -/
namespace Go.E
open Go
section
variable {p : Plan} {n : Net} {r : Road}
end
end Go.E
/- Plain Lean: whether a road is ready, by the program and by the document (law FlankReady). No condition. -/
namespace Go.E
open Go
end Go.E
/- Plain Lean: a road that is ready is so no more when one thing is otherwise (law FlankOne). No condition. -/
namespace Go.E
open Go
section
variable {p : Plan} {n : Net} {r : Road}
structure NOK (p : Plan) (st : List Step) (nd : List Need) : Prop where
 ok : ∀ m ∈ nd, m.elem ∈ st.map (·.elem) ∧ kindP p m.elem = 2 ∧ (m.pos = 1 ∨ m.pos = 2)
 nd : nd.Pairwise (fun a b => a.elem ≠ b.elem)
theorem road_NOK {s : Int} (h : r ∈ ofF p s) : NOK p r.steps r.needs := by
 obtain ⟨sg, nd, l, h1, h2, h3, h4, h5, h6, h7⟩ := isF_parts (ofF_road h).1
 have := stepsF_needs (by simp) (by simp) h4
 rw [h7]
 exact ⟨fun m hm => by simpa using this.1 m hm, this.2.1⟩
theorem both_ok {st : List Step} {nd g : List Need} (h1 : NOK p st nd) (h2 : GOK p st g) : (∀ m ∈ nd ++ g, 0 ≤ m.elem ∧ m.elem < p.elems.length ∧ (m.pos = 1 ∨ m.pos = 2)) ∧ (nd ++ g).Pairwise (fun a b => a.elem ≠ b.elem) := by
 refine ⟨fun m hm => ?_, ?_⟩
 ·have hk : kindP p m.elem = 2 ∧ (m.pos = 1 ∨ m.pos = 2) := by
   rcases List.mem_append.1 hm with hm | hm
   ·exact (h1.ok m hm).2
   ·exact (h2.ok m hm).2
  have := kind_range (p := p) (e := m.elem) (by rw [hk.1]; decide)
  exact ⟨this.1, this.2, hk.2⟩
 ·rw [List.pairwise_append]
  refine ⟨h1.nd, h2.nd, fun a ha b hb e => ?_⟩
  have := (h1.ok a ha).1
  rw [e] at this
  exact (h2.ok b hb).1 this
end
end Go.E
/- Plain Lean: what a road's flank keeps: nobody comes in but from its zone (law FlankKeeps). No condition. -/
namespace Go.E
open Go
section
variable {p : Plan} {n : Net} {r : Road}
theorem thr_other {e i : Int} (h : kindP p e ≠ 2) (x y : Int) : throughP p e i x = throughP p e i y := by
 unfold throughP outsP
 split
 ·split
  ·simp [throughL]
  ·split
   ·simp [throughL]
   ·rfl
 ·rfl
theorem thr_leg {e i x o : Int} (h : kindP p e = 2) (hi : i ≠ 0) (ht : throughP p e i x = some o) : o = 0 ∧ x = i := by
 unfold throughP outsP at ht
 split at ht
 ·rw [if_neg (by omega), if_neg (by omega)] at ht
  simp only [throughL] at ht
  split at ht
  ·rename_i hc
   cases ht
   rcases hc with hc | hc
   ·exact absurd hc hi
   ·exact ⟨rfl, hc.symm⟩
  ·cases ht
 ·cases ht
theorem thr_toe {e x o : Int} (h : kindP p e = 2) (ht : throughP p e 0 x = some o) : o = 1 ∨ o = 2 := by
 unfold throughP outsP at ht
 split at ht
 ·rw [if_neg (by omega), if_neg (by omega), if_pos rfl] at ht
  simp only [throughL] at ht
  split at ht
  ·cases ht; exact .inl rfl
  ·split at ht
   ·cases ht; exact .inr rfl
   ·cases ht
 ·cases ht
def atK (st : List Step) (vis : List (Port × Bool)) (l : List Port) (y : Port) : Prop := y ∈ l ∨ seenB vis y = true ∨ y.elem ∈ st.map (·.elem)
structure RecK (p : Plan) (nd g : List Need) (z h : List Int) (at_ : Port → Prop) (x : Port) : Prop where
 held : 0 ≤ readsP p x ∧ p.hard = false → readsP p x ∈ h
 gate : ¬ (0 ≤ readsP p x ∧ p.hard = false) → kindP p x.elem ≠ 4
 toe : ¬ (0 ≤ readsP p x ∧ p.hard = false) → kindP p x.elem = 2 → x.fin = 0 → x.elem ∈ z ∧ ∀ o, (o = 1 ∨ o = 2) → ∀ y, nextP p ⟨x.elem, o⟩ = some y → at_ y
 leg : ¬ (0 ≤ readsP p x ∧ p.hard = false) → kindP p x.elem = 2 → x.fin ≠ 0 → (x.elem ∈ z ∧ ∀ y, nextP p ⟨x.elem, 0⟩ = some y → at_ y) ∨ (⟨x.elem, wi64 (3 - x.fin)⟩ : Need) ∈ g
 other : ¬ (0 ≤ readsP p x ∧ p.hard = false) → kindP p x.elem ≠ 2 → ∀ o, throughP p x.elem x.fin 0 = some o → x.elem ∈ z ∧ ∀ y, nextP p ⟨x.elem, o⟩ = some y → at_ y
theorem RecK.mono {nd g g' : List Need} {z z' h h' : List Int} {a a' : Port → Prop} {x : Port} (hk : RecK p nd g z h a x) (hg : ∀ m ∈ g, m ∈ g') (hz : ∀ m ∈ z, m ∈ z') (hh : ∀ m ∈ h, m ∈ h') (ha : ∀ y, a y → a' y) : RecK p nd g' z' h' a' x :=
 ⟨fun c => hh _ (hk.held c), hk.gate, fun c k f => ⟨hz _ (hk.toe c k f).1, fun o ho y hy => ha _ ((hk.toe c k f).2 o ho y hy)⟩,
  fun c k f => (hk.leg c k f).imp (fun q => ⟨hz _ q.1, fun y hy => ha _ (q.2 y hy)⟩) (hg _), fun c k o ho => ⟨hz _ (hk.other c k o ho).1, fun y hy => ha _ ((hk.other c k o ho).2 y hy)⟩⟩
structure KI (p : Plan) (st : List Step) (nd : List Need) (b : Bool) (vis : List (Port × Bool)) (g : List Need) (z h : List Int) (l : List Port) : Prop where
 seen : b = false → ∀ x, seenB vis x = true → RecK p nd g z h (atK st vis l) x
 init : ∀ x y, x ∈ portsF p st → nextP p x = some y → atK st vis l y
theorem KI.next {st : List Step} {nd : List Need} {b b' : Bool} {vis vis' : List (Port × Bool)} {g g' : List Need} {z z' h h' : List Int} {l l' : List Port} {x : Port} (hi : KI p st nd b vis g z h (l ++ [x]))
  (hb : b' = false → b = false) (hv : ∀ y, seenB vis y = true → seenB vis' y = true) (hv2 : ∀ y, seenB vis' y = true → seenB vis y = true ∨ y = x) (hl : ∀ y ∈ l, y ∈ l') (hx : seenB vis' x = true ∨ x.elem ∈ st.map (·.elem))
  (hg : ∀ m ∈ g, m ∈ g') (hz : ∀ m ∈ z, m ∈ z') (hh : ∀ m ∈ h, m ∈ h') (hr : b' = false → seenB vis x = false → seenB vis' x = true → RecK p nd g' z' h' (atK st vis' l') x) : KI p st nd b' vis' g' z' h' l' := by
 have ha : ∀ y, atK st vis (l ++ [x]) y → atK st vis' l' y := by
  rintro y (hy | hy | hy)
  ·rcases List.mem_append.1 hy with hy | hy
   ·exact .inl (hl y hy)
   ·simp at hy; subst hy; exact .inr hx
  ·exact .inr (.inl (hv y hy))
  ·exact .inr (.inr hy)
 refine ⟨fun hb' y hy => ?_, fun y q hy hq => ha q (hi.init y q hy hq)⟩
 cases hs : seenB vis y with
 | true => exact (hi.seen (hb hb') y hs).mono hg hz hh ha
 | false =>
  rcases hv2 y hy with hy2 | rfl
  ·rw [hs] at hy2; cases hy2
  ·exact hr hb' hs hy
theorem takeZ_sub {b : Bool} {z : List Int} {e m : Int} (hm : m ∈ z) : m ∈ (takeZ b z e).2.2 := by
 unfold takeZ
 split
 ·exact hm
 ·split
  ·exact hm
  ·exact List.mem_append_left _ hm
theorem takeZ_no {b : Bool} {z : List Int} {e : Int} (h : (takeZ b z e).2.1 = false) : b = false ∧ (takeZ b z e).1 = true ∧ e ∈ (takeZ b z e).2.2 := by
 unfold takeZ at *
 split
 ·rename_i c; rw [if_pos c] at h; exact ⟨h, rfl, c⟩
 ·rename_i c
  rw [if_neg c] at h
  split
  ·rename_i d; rw [if_pos d] at h; cases h
  ·rename_i d; rw [if_neg d] at h; exact ⟨h, rfl, by simp⟩
theorem pushN_sub {l : List Port} {x y : Port} (h : y ∈ l) : y ∈ pushN p l x := by
 unfold pushN
 split
 ·exact List.mem_append_left _ h
 ·exact h
theorem pushN_new {l : List Port} {x y : Port} (h : nextP p x = some y) : y ∈ pushN p l x := by
 unfold pushN
 rw [h]
 simp
theorem KI_step {st : List Step} {nd : List Need} {b : Bool} {vis : List (Port × Bool)} {g : List Need} {z h : List Int} {l : List Port} {x : Port} (hi : KI p st nd b vis g z h (l ++ [x])) {s : FS} (hs : s = fstep p st nd b vis g z h l x) :
  KI p st nd s.1 s.2.1 s.2.2.1 s.2.2.2.1 s.2.2.2.2.1 s.2.2.2.2.2 := by
 have sx : seenB (aput x true vis) x = true := (seenB_aput vis x x).2 (.inl rfl)
 have s1 : ∀ y, seenB vis y = true → seenB (aput x true vis) y = true := fun y hy => (seenB_aput vis x y).2 (.inr hy)
 have s2 : ∀ y, seenB (aput x true vis) y = true → seenB vis y = true ∨ y = x := fun y hy => ((seenB_aput vis x y).1 hy).symm
 unfold fstep at hs
 by_cases c : x.elem ∈ st.map (·.elem) ∨ seenB vis x = true
 ·rw [if_pos c] at hs
  subst hs
  exact hi.next (fun h => h) (fun _ h => h) (fun _ h => .inl h) (fun _ h => h) c.symm (fun _ h => h) (fun _ h => h) (fun _ h => h) fun _ hn hy => (by rw [hn] at hy; cases hy)
 ·rw [if_neg c] at hs
  by_cases k1 : 0 ≤ readsP p x ∧ p.hard = false
  ·rw [if_pos k1] at hs
   subst hs
   refine hi.next (fun h => h) s1 s2 (fun _ h => h) (.inl sx) (fun _ h => h) (fun _ h => h) (fun m hm => ?_) fun _ _ _ => ⟨fun _ => ?_, fun q => absurd k1 q, fun q => absurd k1 q, fun q => absurd k1 q, fun q => absurd k1 q⟩
   ·dsimp only; split
    ·exact hm
    ·exact List.mem_append_left _ hm
   ·dsimp only; split
    ·assumption
    ·simp
  ·rw [if_neg k1] at hs
   by_cases k4 : kindP p x.elem = 4
   ·rw [if_pos k4] at hs
    subst hs
    exact hi.next (fun h => (by cases h)) s1 s2 (fun _ h => h) (.inl sx) (fun _ h => h) (fun _ h => h) (fun _ h => h) fun h => (by cases h)
   ·rw [if_neg k4] at hs
    by_cases k2 : kindP p x.elem = 2
    ·rw [if_pos k2] at hs
     by_cases f0 : x.fin = 0
     ·rw [if_pos f0] at hs
      subst hs
      refine hi.next (fun hb => (takeZ_no hb).1) s1 s2 (fun y hy => ?_) (.inl sx) (fun _ h => h) (fun _ h => takeZ_sub h) (fun _ h => h) fun hb _ _ => ⟨fun q => absurd q k1, fun _ => k4, fun _ _ _ => ⟨(takeZ_no hb).2.2, fun o ho y hy => .inl ?_⟩, fun _ _ f => absurd f0 f, fun _ q => absurd k2 q⟩
      ·dsimp only; split
       ·exact pushN_sub (pushN_sub hy)
       ·exact hy
      ·dsimp only
       rw [if_pos (takeZ_no hb).2.1]
       rcases ho with rfl | rfl
       ·exact pushN_new hy
       ·exact pushN_sub (pushN_new hy)
     ·rw [if_neg f0] at hs
      by_cases a : (⟨x.elem, x.fin⟩ : Need) ∈ nd ∨ (⟨x.elem, x.fin⟩ : Need) ∈ g
      ·rw [if_pos a] at hs
       subst hs
       refine hi.next (fun hb => (takeZ_no hb).1) s1 s2 (fun y hy => ?_) (.inl sx) (fun _ h => h) (fun _ h => takeZ_sub h) (fun _ h => h) fun hb _ _ => ⟨fun q => absurd q k1, fun _ => k4, fun _ _ f => absurd f f0, fun _ _ _ => .inl ⟨(takeZ_no hb).2.2, fun y hy => .inl ?_⟩, fun _ q => absurd k2 q⟩
       ·dsimp only; split
        ·exact pushN_sub hy
        ·exact hy
       ·dsimp only
        rw [if_pos (takeZ_no hb).2.1]
        exact pushN_new hy
      ·rw [if_neg a] at hs
       subst hs
       refine hi.next (fun h => h) s1 s2 (fun _ h => h) (.inl sx) (fun m hm => ?_) (fun _ h => h) (fun _ h => h) fun hb _ _ => ⟨fun q => absurd q k1, fun _ => k4, fun _ _ f => absurd f f0, fun _ _ _ => .inr ?_, fun _ q => absurd k2 q⟩
       ·dsimp only; split
        ·exact hm
        ·exact List.mem_append_left _ hm
       ·dsimp only; split
        ·assumption
        ·simp
    ·rw [if_neg k2] at hs
     cases ht : throughP p x.elem x.fin 0 with
     | none =>
      rw [ht] at hs
      subst hs
      exact hi.next (fun h => h) s1 s2 (fun _ h => h) (.inl sx) (fun _ h => h) (fun _ h => h) (fun _ h => h) fun hb _ _ => ⟨fun q => absurd q k1, fun _ => k4, fun _ q => absurd q k2, fun _ q => absurd q k2, fun _ _ o ho => (by rw [ht] at ho; cases ho)⟩
     | some o =>
      rw [ht] at hs
      subst hs
      refine hi.next (fun hb => (takeZ_no hb).1) s1 s2 (fun y hy => ?_) (.inl sx) (fun _ h => h) (fun _ h => takeZ_sub h) (fun _ h => h) fun hb _ _ => ⟨fun q => absurd q k1, fun _ => k4, fun _ q => absurd q k2, fun _ q => absurd q k2, fun _ _ o' ho => ?_⟩
      ·dsimp only; split
       ·exact pushN_sub hy
       ·exact hy
      ·rw [ht] at ho
       cases ho
       refine ⟨(takeZ_no hb).2.2, fun y hy => .inl ?_⟩
       dsimp only
       rw [if_pos (takeZ_no hb).2.1]
       exact pushN_new hy
theorem flank_keeps (hv : Valid p) (hn : NetOf p n) (h1 : r.steps.length ≤ 12) (h2 : r.needs.length ≤ 1000) : ∃ g z h b, g_flank_Of n r = some ⟨r.frm, r.to, r.fin, r.steps, r.needs, g, z, h, b⟩ ∧ ZOK p r.steps z ∧ GOK p r.steps g ∧ (p.hard = true → h = []) ∧ g.length ≤ 700 ∧ h.length ≤ 700 ∧
  ∃ vis, KI p r.steps r.needs b vis g z h [] := by
 have hj := hv.nj
 have hp := portsF_len (p := p) r.steps
 rw [flank_start hv hn h1 h2]
 obtain ⟨R, e1, g, z, h, b, rfl, e2⟩ := loop_up (step := g_flank_Of_l2 n r r.steps r.needs p) (Post := fun R => ∃ g z h b, R = (⟨r.frm, r.to, r.fin, r.steps, r.needs, g, z, h, b⟩ : Road) ∧ ZOK p r.steps z ∧ GOK p r.steps g ∧ (p.hard = true → h = []) ∧ g.length ≤ 700 ∧ h.length ≤ 700 ∧ ∃ vis, KI p r.steps r.needs b vis g z h [])
  (fun k s => FI p r.steps 700 k s.2.1 s.2.2.1 s.2.2.2.1 s.2.2.2.2.1 s.2.2.2.2.2 ∧ KI p r.steps r.needs s.1 s.2.1 s.2.2.1 s.2.2.2.1 s.2.2.2.2.1 s.2.2.2.2.2) 700 (s := (false, [], [], [], [], (startQ p (portsF p r.steps)).reverse)) (by
   rintro k ⟨b, vis, g, z, h, l⟩ ⟨hi, hk⟩
   have hm := hi.meas
   have hlg := hi.lg
   have hlh := hi.lh
   have hzl := hi.zok.len
   dsimp only at hm hlg hlh hzl hi hk
   rcases List.eq_nil_or_concat l with rfl | ⟨l', x, rfl⟩
   ·left
    exact ⟨_, rfl, g, z, h, b, rfl, hi.zok, hi.gok, hi.hold, by omega, by omega, vis, hk⟩
   ·right
    rw [List.concat_eq_append] at hi hm hk ⊢
    simp only [List.length_append, List.length_cons, List.length_nil] at hm
    refine ⟨by omega, _, flank_step hn h1 h2 b vis g z h l' x (by omega) (by omega) (by omega) (by omega), FI_step hv hi rfl, KI_step hk rfl⟩) (by
   refine ⟨⟨⟨by simp, by simp, by simp, by simp⟩, ⟨by simp, by simp⟩, fun _ => rfl, fun y hy => ?_, by simp, by simp, ?_⟩, fun _ x hx => ?_, fun x y hx hy => .inl ?_⟩
   ·have := List.mem_reverse.1 hy
    obtain ⟨x, hx, rfl⟩ := List.mem_map.1 this
    obtain ⟨y, hy⟩ := ports_joined hx
    rw [hy]
    exact next_port hy
   ·have h3 : unv p [] ≤ (portsP p).length := List.length_filter_le _ _
    have h4 : (portsP p).length = 2 * p.joins.length := flat_len2 _
    simp only [startQ, List.length_reverse, List.length_map]
    omega
   ·simp [seenB, assoc] at hx
   ·rw [List.mem_reverse]
    exact List.mem_map.2 ⟨x, hx, by rw [hy]; rfl⟩)
 exact ⟨g, z, h, b, e1, e2⟩
theorem keeps_arr {st : List Step} {nd g : List Need} {z h : List Int} {vis : List (Port × Bool)} (hk : KI p st nd false vis g z h []) {lie : List Int} (hl : ∀ m ∈ g, lieW lie m.elem = m.pos) {shut : List Bool} (hs : ∀ i ∈ h, 0 ≤ i → i < p.signals.length → p.hard = false → (idx shut i).getD false = true) (hj : JoinP p)
  {y : Port} (ha : Arr p lie shut st y) : seenB vis y = true ∨ y.elem ∈ st.map (·.elem) := by
 have fin : ∀ y, atK st vis [] y → seenB vis y = true ∨ y.elem ∈ st.map (·.elem) := fun y h => by
  rcases h with h | h
  ·cases h
  ·exact h
 induction ha with
 | init h1 h2 => exact fin _ (hk.init _ _ h1 h2)
 | @step x y o hx h1 h2 h3 h4 h5 ih =>
  rcases ih with ih | ih
  ·have hr := hk.seen rfl x ih
   have kn : ¬ (0 ≤ readsP p x ∧ p.hard = false) := fun q => by
    have := hs _ (hr.held q) q.1 (by rcases readsP_cases p x with e | e <;> omega) q.2
    unfold shutP at h2
    rw [this] at h2
    simp [q.1] at h2
   by_cases k2 : kindP p x.elem = 2
   ·by_cases f0 : x.fin = 0
    ·rw [f0] at h4
     exact fin _ ((hr.toe kn k2 f0).2 o (thr_toe k2 h4) y h5)
    ·obtain ⟨rfl, q⟩ := thr_leg k2 f0 h4
     rcases hr.leg kn k2 f0 with hr | hr
     ·exact fin _ (hr.2 y h5)
     ·exfalso
      have := hl _ hr
      simp only at this
      rw [this] at q
      obtain ⟨i, hi⟩ := List.mem_iff_getElem?.1 hx.in_ports
      have hp := hasP_fin (hj.has i x hi)
      rw [k2] at hp
      simp [endsF] at hp
      have hw : wi64 (3 - x.fin) = 3 - x.fin := by rw [wi64_id] <;> omega
      rw [hw] at q
      omega
   ·rw [thr_other k2 _ 0] at h4
    exact fin _ ((hr.other kn k2 o h4).2 y h5)
  ·exact absurd ih h1
theorem keeps_zone {st : List Step} {nd g : List Need} {z h : List Int} {vis : List (Port × Bool)} (hk : KI p st nd false vis g z h []) {lie : List Int} (hl : ∀ m ∈ g, lieW lie m.elem = m.pos) {shut : List Bool} (hs : ∀ i ∈ h, 0 ≤ i → i < p.signals.length → p.hard = false → (idx shut i).getD false = true) (hj : JoinP p)
  {e : Int} (ha : ZoneR p lie shut st e) : e ∈ z := by
 obtain ⟨x, hx, rfl, h1, h2, h3⟩ := ha
 have ih := (keeps_arr hk hl hs hj hx).resolve_right h1
 have hr := hk.seen rfl x ih
 have kn : ¬ (0 ≤ readsP p x ∧ p.hard = false) := fun q => by
  have := hs _ (hr.held q) q.1 (by rcases readsP_cases p x with e | e <;> omega) q.2
  unfold shutP at h2
  rw [this] at h2
  simp [q.1] at h2
 obtain ⟨o, h4⟩ := Option.isSome_iff_exists.1 (h3.resolve_left (hr.gate kn))
 by_cases k2 : kindP p x.elem = 2
 ·by_cases f0 : x.fin = 0
  ·exact (hr.toe kn k2 f0).1
  ·obtain ⟨rfl, q⟩ := thr_leg k2 f0 h4
   rcases hr.leg kn k2 f0 with hr | hr
   ·exact hr.1
   ·exfalso
    have := hl _ hr
    simp only at this
    rw [this] at q
    obtain ⟨i, hi⟩ := List.mem_iff_getElem?.1 hx.in_ports
    have hp := hasP_fin (hj.has i x hi)
    rw [k2] at hp
    simp [endsF] at hp
    have hw : wi64 (3 - x.fin) = 3 - x.fin := by rw [wi64_id] <;> omega
    rw [hw] at q
    omega
 ·rw [thr_other k2 _ 0] at h4
  exact (hr.other kn k2 o h4).1
theorem within_eq (a b : List Int) (ha : a.length < 1000000) (hb : b.length < 1000000) (h : ∀ x ∈ a, x ∈ b) : g_L9_within a b = some true := by
 unfold g_L9_within
 obtain ⟨t, h1, h2⟩ := loop_ix (l := a) (step := g_L9_within_l1 a b) (Post := fun t => t = true) (fun _ _ => True) (fun _ => ⟨true, by simp [g_L9_within_l1], rfl⟩) (fun i x hx _ => by
  have := ilt hx
  refine .inr ⟨?_, trivial⟩
  simp only [g_L9_within_l1, dlt hx, cond_true, idx_nat, hx, Option.bind_some, In_eq b hb, decide_eq_true (h x (List.mem_of_getElem? hx)), Bool.not_true, cond_false, wi64_succ (show i < 1000000000 by omega)])
 rw [h1, h2]
theorem FlankKeeps_true (p : Plan) (k : Int) (pos : List Int) (hk : (Lit.int .u8 k).wf = true) : g_L9_FlankKeeps p k pos = some true := by
 unfold g_L9_FlankKeeps
 simp only [known9, Option.bind_some, Bool.not_true, cond_false]
 obtain ⟨b, h1, h2⟩ := fine_total p
 simp only [h1, Option.bind_some]
 cases b with
 | false => rfl
 | true =>
  simp only [Bool.not_true, cond_false, Option.bind_some]
  by_cases c1 : (100 : Int) < (pos.length : Int)
  ·rw [decide_eq_true c1]; rfl
  rw [decide_eq_false c1]
  have hv := h2 rfl
  have hf := hv.few
  obtain ⟨o, h3, h4⟩ := made_total p
  obtain ⟨n, rfl, hn⟩ := h4 h1
  obtain ⟨r, b, h5, h6⟩ := L8_Road_eq hv hk
  simp only [cond_false, Option.bind_some, h3, h5, optM]
  cases b with
  | false => rfl
  | true =>
   obtain ⟨s, hs⟩ := h6 rfl
   have hl := ofF_steps hs
   have hnd : r.needs.length ≤ 12 := (ofF_road hs).2.2.2.2.2.2.2.2
   obtain ⟨g, z, h, b, e3, e4, e5, e6, e7, e8, vis, hK⟩ := flank_keeps hv hn hl (show r.needs.length ≤ 1000 by omega)
   simp only [Bool.not_true, cond_false, e3, Option.bind_some]
   cases b with
   | true => rfl
   | false =>
    have hz := e4.len
    have hE : p.elems.length ≤ 1000 := by have := hf.elems; omega
    have hS : p.signals.length ≤ 1000 := by have := hf.signals; omega
    obtain ⟨hok, hpw⟩ := both_ok (road_NOK hs) e5
    obtain ⟨base, e9, hb1, hb2⟩ := Lying_ok p (r.needs ++ g) pos hE (by simp; omega)
    have hlie : ∀ m ∈ g, lieW ((r.needs ++ g).foldl lieStep base) m.elem = m.pos := fun m hm => by
     have hm' : m ∈ r.needs ++ g := by simp [hm]
     unfold lieW
     rw [lieFold_mem _ _ hpw m hm' (hok m hm').1 (by rw [hb1]; exact (hok m hm').2.1)]; rfl
    generalize hP : (r.needs ++ g).foldl lieStep base = P at hlie e9
    have hmk : mkI (p.signals.length : Int) false = some (List.replicate p.signals.length false) := by
     unfold mkI
     rw [if_pos ⟨by omega, by omega⟩]; rfl
    simp only [cond_false, Option.bind_some, appI_ok (show ([] : List Need).length + r.needs.length ≤ 4294967296 by simp; omega), List.nil_append, appI_ok (show r.needs.length + g.length ≤ 4294967296 by omega), e9, hmk]
    have fin : ∀ shut : List Bool, (∀ i ∈ h, 0 ≤ i → i < p.signals.length → p.hard = false → (idx shut i).getD false = true) → ∃ l, g_side_Reach n P shut (⟨r.frm, r.to, r.fin, r.steps, r.needs, g, z, h, false⟩ : Road) = some l ∧ g_L9_within l z = some true := by
     intro shut hsh
     obtain ⟨l, q1, q2, q3, q4⟩ := Reach_spec (r := ⟨r.frm, r.to, r.fin, r.steps, r.needs, g, z, h, false⟩) hv hn hl P shut
     exact ⟨l, q1, within_eq l z (by omega) (by omega) fun e he => keeps_zone hK hlie hsh hv.join ((q3 e).1 he)⟩
    obtain ⟨t, r1, r2⟩ := loop_up (step := g_L9_FlankKeeps_l1 p n (⟨r.frm, r.to, r.fin, r.steps, r.needs, g, z, h, false⟩ : Road) P) (Post := fun t => t = true)
     (fun k s => s.1 = (k : Int) ∧ k ≤ p.signals.length ∧ s.2.1.length = p.signals.length ∧ s.2.2.length = p.signals.length ∧ (∀ j : Nat, j < k → s.2.1[j]? = some true) ∧ ∀ j : Nat, j < k → s.2.2[j]? = some (!p.hard && decide ((j : Int) ∈ h))) p.signals.length
     (s := (0, List.replicate p.signals.length false, List.replicate p.signals.length false)) (by
      rintro k ⟨i, a, d⟩ ⟨rfl, g1, g2, g3, g4, g5⟩
      dsimp only at g2 g3 g4 g5 ⊢
      by_cases c : k = p.signals.length
      ·left
       have dd : decide ((k : Int) < (a.length : Int)) = false := decide_eq_false (by omega)
       obtain ⟨l1, u1, u2⟩ := fin a fun i hi h0 hi2 _ => by
        obtain ⟨j, rfl⟩ := Int.eq_ofNat_of_zero_le h0
        rw [idx_nat, g4 j (by omega)]; rfl
       obtain ⟨l2, v1, v2⟩ := fin d fun i hi h0 hi2 hh => by
        obtain ⟨j, rfl⟩ := Int.eq_ofNat_of_zero_le h0
        rw [idx_nat, g5 j (by omega), hh]
        simp only [Bool.not_false, Bool.true_and, Option.getD_some, decide_eq_true_eq]
        exact hi
       exact ⟨true, by simp only [g_L9_FlankKeeps_l1, dd, cond_false, u1, u2, v1, v2, Option.bind_some, cond_true, Option.map_some], rfl⟩
      ·right
       have hkl : k < p.signals.length := by omega
       have dd : decide ((k : Int) < (a.length : Int)) = true := decide_eq_true (by omega)
       have i1 : a[k]? = some (a[k]'(by omega)) := List.getElem?_eq_getElem _
       have i2 : d[k]? = some (d[k]'(by omega)) := List.getElem?_eq_getElem _
       have w := wi64_succ (show k < 1000000000 by omega)
       refine ⟨hkl, (((k + 1 : Nat) : Int), setI a (k : Int) true, setI d (k : Int) (!p.hard && decide ((k : Int) ∈ h))), ?_, rfl, by omega, by rw [setI_len]; exact g2, by rw [setI_len]; exact g3, fun j hj => ?_, fun j hj => ?_⟩
       ·simp only [g_L9_FlankKeeps_l1, dd, cond_true, idx_nat, i1, i2, Option.bind_some, w, In_eq h (show h.length < 1000000 by omega)]
        cases p.hard <;> simp
       ·show (a.set (k : Int).toNat true)[j]? = _
        rw [Int.toNat_natCast]
        by_cases e : j = k
        ·subst e; rw [List.getElem?_set_self (by omega)]
        ·rw [List.getElem?_set_ne (by omega)]; exact g4 j (by omega)
       ·show (d.set (k : Int).toNat _)[j]? = _
        rw [Int.toNat_natCast]
        by_cases e : j = k
        ·subst e; rw [List.getElem?_set_self (by omega)]
        ·rw [List.getElem?_set_ne (by omega)]; exact g5 j (by omega)) (by simp)
    rw [r1, r2]
end
end Go.E
