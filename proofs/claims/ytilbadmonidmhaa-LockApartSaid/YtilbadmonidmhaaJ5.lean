/- Plain Lean: the roads of a signal: the document's search and the program's are one. No condition. -/
import Derived.KernelRfl
import Derived.Test.YtilbadmonidmhaaJ4
set_option linter.unusedVariables false
set_option linter.unusedSimpArgs false
namespace Go.E
open Go
def H5 (s to fin : Int) (st : List Ar) (nd : List AN) : AQ := ⟨s, to, fin, st, nd, [], [], [], false⟩
def Ic (nd : List AN) (e pos : Int) : List AN := if pos = 0 then nd else nd ++ [⟨e, pos⟩]
def Mz (p : AH) (s : Int) : Nat -> List Ar -> List AN -> AD -> List Int -> List AQ
 | 0, _, _, _, _ => []
 | k + 1, st, nd, x, met => if x.elem ∈ met \/ st.length = 12 then [] else if Af p x.elem = 4 then [H5 s (-1) 2 (st ++ [⟨x.elem, x.fin, -1⟩]) nd] else
  (CC p x.elem x.fin).flatMap fun w => if 0 <= Az p ⟨x.elem, w.out⟩ then [H5 s (Az p ⟨x.elem, w.out⟩) 1 (st ++ [⟨x.elem, x.fin, w.out⟩]) (Ic nd x.elem w.pos)] else match Ap p ⟨x.elem, w.out⟩ with
   | none => [H5 s (-1) 3 (st ++ [⟨x.elem, x.fin, w.out⟩]) (Ic nd x.elem w.pos)]
   | some y => Mz p s k (st ++ [⟨x.elem, x.fin, w.out⟩]) (Ic nd x.elem w.pos) y (met ++ [x.elem])
def Hs (p : AH) (s : Int) (k : Nat) (st : List Ar) (nd : List AN) (x : AD) (met : List Int) (w : Cx) : List AQ :=
 if 0 <= Az p ⟨x.elem, w.out⟩ then [H5 s (Az p ⟨x.elem, w.out⟩) 1 (st ++ [⟨x.elem, x.fin, w.out⟩]) (Ic nd x.elem w.pos)] else match Ap p ⟨x.elem, w.out⟩ with
  | none => [H5 s (-1) 3 (st ++ [⟨x.elem, x.fin, w.out⟩]) (Ic nd x.elem w.pos)]
  | some y => Mz p s k (st ++ [⟨x.elem, x.fin, w.out⟩]) (Ic nd x.elem w.pos) y (met ++ [x.elem])
theorem Mf (p : AH) (s : Int) (k : Nat) (st : List Ar) (nd : List AN) (x : AD) (met : List Int) :
  Mz p s (k + 1) st nd x met = if x.elem ∈ met \/ st.length = 12 then [] else if Af p x.elem = 4 then [H5 s (-1) 2 (st ++ [⟨x.elem, x.fin, -1⟩]) nd] else (CC p x.elem x.fin).flatMap (Hs p s k st nd x met) := rfl
theorem S7 (p : AH) (s : Int) (k : Nat) (st : List Ar) (nd : List AN) (x : AD) (met : List Int) (w : Cx) (ih : ∀ st nd x met, (Mz p s k st nd x met).length <= 2 ^ k) : (Hs p s k st nd x met w).length <= 2 ^ k := by
 have h1 : 1 <= 2 ^ k := Nat.one_le_two_pow
 unfold Hs
 split
 .simp; omega
 split
 .simp; omega
 exact ih _ _ _ _
theorem Jf {α β : Type} (f : α -> List β) (b : Nat) : ∀ l : List α, (∀ a ∈ l, (f a).length <= b) -> (l.flatMap f).length <= l.length * b
 | [], _ => by simp
 | a :: l, h => by
  have h1 := h a (by simp)
  have h2 := Jf f b l fun x hx => h x (by simp [hx])
  simp only [List.flatMap_cons, List.length_append, List.length_cons, Nat.add_mul]
  omega
theorem Qh (p : AH) (s : Int) : ∀ (k : Nat) (st : List Ar) (nd : List AN) (x : AD) (met : List Int), (Mz p s k st nd x met).length <= 2 ^ k
 | 0, _, _, _, _ => by simp [Mz]
 | k + 1, st, nd, x, met => by
  have h1 : 1 <= 2 ^ (k + 1) := Nat.one_le_two_pow
  rw [Mf]
  split
  .simp
  split
  .simp; omega
  have h2 := Jf (Hs p s k st nd x met) (2 ^ k) (CC p x.elem x.fin) fun w _ => S7 p s k st nd x met w (Qh p s k)
  have h3 := K0 p x.elem x.fin
  have h4 : (CC p x.elem x.fin).length * 2 ^ k <= 2 * 2 ^ k := Nat.mul_le_mul_right _ h3
  rw [Nat.pow_succ]; omega
theorem Md (l : List Int) (hl : l.length < 1000000) (x : Int) : Cw l x = some (decide (x ∈ l)) := by
 unfold Cw
 obtain ⟨b, h1, h2⟩ := Bu (l := l) (step := EI l x) (Post := fun b => b = decide (x ∈ l)) (fun _ y => y ≠ x) (fun good => ⟨false, by simp [EI], by
   symm; rw [decide_eq_false_iff_not]; intro hm
   obtain ⟨i, hi⟩ := List.getElem?_of_mem hm
   exact good i x hi rfl⟩) (fun i a ha _ => by
   have := Ba ha
   by_cases e : a = x
   .exact .inl ⟨true, by simp only [EI, BQ ha, cond_true, AY, ha, Option.bind_some, e, beq_self_eq_true], by symm; rw [decide_eq_true_iff]; subst e; exact List.mem_of_getElem? ha⟩
   have : (a == x) = false := beq_eq_false_iff_ne.2 e
   exact .inr ⟨by simp only [EI, BQ ha, cond_true, AY, ha, Option.bind_some, this, cond_false, AT (show i < 1000000000 by omega)], e⟩)
 rw [h1, h2]
theorem OH (r : AQ) (s : Ar) (pos fin to : Int) (h1 : r.steps.length <= 100) (h2 : r.needs.length <= 100) : EM r s pos fin to = some (H5 r.frm to fin (r.steps ++ [s]) (Ic r.needs s.elem pos)) := by
 unfold EM
 rw [BK (by simp; omega)]
 simp only [Option.bind_some, List.nil_append]
 rw [BK (by simp; omega)]
 simp only [Option.bind_some]
 rw [BK (by simp; omega)]
 simp only [Option.bind_some, List.nil_append, LM]
 unfold Ic H5
 by_cases e : pos = 0
 .simp [e]
 simp only [if_neg e]
 rw [BK (by simp; omega)]
 simp
theorem S8 (nd : List AN) (e pos : Int) : (Ic nd e pos).length <= nd.length + 1 := by
 unfold Ic; split <;> simp
noncomputable def Xn (m : Nat) : AH × AQ × AD × List Int -> Option (List AQ) := Ng (fun rc a => FQ rc a.1 a.2.1 a.2.2.1 a.2.2.2) m
theorem Xo {p : AH} (hf : Ea p) (s : Int) : ∀ (k m : Nat) (to fin : Int) (st : List Ar) (nd : List AN) (x : AD) (met : List Int), k <= m -> st.length + k = 13 -> nd.length <= st.length -> met.length <= st.length + 1 -> 1 <= k ->
  Xn m (p, (⟨s, to, fin, st, nd, [], [], [], false⟩ : AQ), x, met) = some (Mz p s k st nd x met)
 | 0, _, _, _, _, _, _, _, _, _, _, _, h => by omega
 | k + 1, 0, _, _, _, _, _, _, h, _, _, _, _ => by omega
 | k + 1, m + 1, to, fin, st, nd, x, met, hkm, hst, hnd, hmet, _ => by
  have hpow : 2 ^ k <= 2 ^ 12 := Nat.pow_le_pow_right (by decide) (by omega)
  show FQ (Xn m) p ⟨s, to, fin, st, nd, [], [], [], false⟩ x met = _
  unfold FQ
  rw [Md met (by omega) x.elem, Mf]
  simp only [Option.bind_some]
  by_cases hm : x.elem ∈ met
  .simp [hm]
  simp only [hm, decide_false, cond_false, false_or, Option.bind_some]
  by_cases hl : st.length = 12
  .have : (((st.length : Nat) : Int) == 12) = true := by rw [beq_iff_eq]; omega
   simp only [this, cond_true, if_pos hl]
  have : (((st.length : Nat) : Int) == 12) = false := by rw [beq_eq_false_iff_ne]; omega
  simp only [this, cond_false, if_neg hl]
  rw [BK (by simp; omega)]
  simp only [Option.bind_some, List.nil_append]
  rw [BK (by simp; omega)]
  simp only [Option.bind_some, Kc, D1]
  by_cases hk : Af p x.elem = 4
  .simp only [if_pos hk, OH (⟨s, to, fin, st, nd, [], [], [], false⟩ : AQ) ⟨x.elem, x.fin, -1⟩ 0 2 (-1) (by simp only; omega) (by simp only; omega), Option.bind_some, Ic, if_true]
  simp only [if_neg hk, P2, Option.bind_some]
  have hol := K0 p x.elem x.fin
  have wl : ∀ w, (Hs p s k st nd x met w).length <= 2 ^ k := fun w => S7 p s k st nd x met w (Qh p s k)
  obtain ⟨b, h1, h2⟩ := Bz (l := CC p x.elem x.fin) (step := Fq p ⟨s, to, fin, st, nd, [], [], [], false⟩ x (Xn m) (met ++ [x.elem]) (CC p x.elem x.fin))
   (Post := fun b => b = (CC p x.elem x.fin).flatMap (Hs p s k st nd x met)) (fun i o => o = ((CC p x.elem x.fin).take i).flatMap (Hs p s k st nd x met)) (c := [])
   (fun o ho => ⟨o, by simp [Fq], by rw [ho, List.take_length]⟩)
   (fun i w o hw ho => by
    have hi := Ba hw
    have hol2 : o.length <= 2 * 2 ^ k := by
     rw [ho]
     have h5 := Jf (Hs p s k st nd x met) (2 ^ k) ((CC p x.elem x.fin).take i) fun w _ => wl w
     have h6 : ((CC p x.elem x.fin).take i).length * 2 ^ k <= 2 * 2 ^ k := Nat.mul_le_mul_right _ (by rw [List.length_take]; omega)
     omega
    have hw2 := wl w
    refine .inr ⟨o ++ Hs p s k st nd x met w, ?_, by rw [ho, List.take_add_one, hw]; simp⟩
    have hb : o.length + (Hs p s k st nd x met w).length <= 4294967296 := by omega
    simp only [Fq, BQ hw, cond_true, AY, hw, Option.bind_some, Hf p (show p.signals.length < 1000000 by have := hf.signals; omega)]
    unfold Hs at hb ⊢
    by_cases hr : 0 <= Az p ⟨x.elem, w.out⟩
    .rw [if_pos hr] at hb ⊢
     simp only [hr, decide_true, cond_true, OH (⟨s, to, fin, st, nd, [], [], [], false⟩ : AQ) ⟨x.elem, x.fin, w.out⟩ w.pos 1 (Az p ⟨x.elem, w.out⟩) (by simp only; omega) (by simp only; omega), Option.bind_some]
     rw [BK hb]
     simp only [Option.bind_some, AT (show i < 1000000000 by omega)]
    rw [if_neg hr] at hb ⊢
    simp only [hr, decide_false, cond_false, Ce p (by have := hf.joins; omega), Option.bind_some]
    cases hnx : Ap p ⟨x.elem, w.out⟩ with
    | none =>
     rw [hnx] at hb
     simp only [Option.isSome_none, Bool.not_false, cond_true, OH (⟨s, to, fin, st, nd, [], [], [], false⟩ : AQ) ⟨x.elem, x.fin, w.out⟩ w.pos 3 (-1) (by simp only; omega) (by simp only; omega), Option.bind_some]
     rw [BK hb]
     simp only [Option.bind_some, AT (show i < 1000000000 by omega)]
    | some y =>
     rw [hnx] at hb
     simp only at hb
     have hal := S8 nd x.elem w.pos
     have hrec := Xo hf s k m (-1) 0 (st ++ [⟨x.elem, x.fin, w.out⟩]) (Ic nd x.elem w.pos) y (met ++ [x.elem]) (by omega) (by simp; omega) (by simp; omega) (by simp; omega) (by omega)
     simp only [Option.isSome_some, Option.getD_some, Bool.not_true, cond_false, OH (⟨s, to, fin, st, nd, [], [], [], false⟩ : AQ) ⟨x.elem, x.fin, w.out⟩ w.pos 0 (-1) (by simp only; omega) (by simp only; omega), Option.bind_some]
     unfold H5
     rw [hrec]
     simp only [Option.bind_some]
     rw [BK hb]
     simp only [Option.bind_some, AT (show i < 1000000000 by omega)])
   (by simp)
  rw [show (0 : Int) = ((0 : Nat) : Int) from rfl] at *
  rw [h1, h2]
def GE (p : AH) (s : Int) : List AQ := match Ad p.signals s with
 | none => []
 | some a => match Ap p a.at_ with
  | none => []
  | some y => Mz p s 13 [] [] y [a.at_.elem]
theorem Zu (p : AH) (s : Int) : Lr p s = some (match Ad p.signals s with | none => (⟨0, 0⟩, false) | some a => (a.at_, true)) := by
 unfold Lr
 by_cases h1 : s < 0
 .simp [h1, EZ (.inl h1)]
 by_cases h2 : (p.signals.length : Int) <= s
 .simp [h1, h2, EZ (.inr h2)]
 obtain ⟨a, ha⟩ := Nk (l := p.signals) (n := s) (by omega) (by omega)
 simp [h1, h2, ha]
theorem Xp {p : AH} (hf : Ea p) (s : Int) : KX p s = some (GE p s) := by
 unfold KX GE
 rw [Zu]
 cases Ad p.signals s with
 | none => rfl
 | some a =>
  simp only [Option.bind_some, Bool.not_true, cond_false, Ce p (by have := hf.joins; omega)]
  cases Ap p a.at_ with
  | none => rfl
  | some y =>
   have := Xo hf s 13 1000 0 0 [] [] y [a.at_.elem] (by omega) rfl (by simp) (by simp) (by omega)
   simp only [Option.isSome_some, Option.getD_some, Bool.not_true, cond_false]
   show (Xn 1000 _).bind _ = _
   rw [this]; rfl
end Go.E
/- Plain Lean: the program's search for roads gives what the document's does. No condition. -/
namespace Go.E
open Go
section
variable {p : AH} {n : CJ}
theorem YK {α : Type} (l : List α) (x : α) (hl : l.length < 1000000) : AX (((l ++ [x]).length : Int) - 1) = (l.length : Int) := by
 have : (((l ++ [x]).length : Int) - 1) = (l.length : Int) := by simp
 rw [this, CG] <;> omega
theorem ZD {α : Type} {l : List α} {m : Nat} (x : α) (h : l.length = m) : Ad (l ++ [x]) (m : Int) = some x := by
 rw [AY]; subst h; simp
theorem YL {α : Type} {l : List α} (h : l ≠ []) (a b : Int) : Yw l a b = Yh l a b := by
 cases l with
 | nil => exact absurd rfl h
 | cons x l => rfl
theorem ZE {α : Type} {l : List α} {m : Nat} (x : α) (h : l.length = m) : Yw (l ++ [x]) 0 (m : Int) = some l := by
 subst h
 rw [YL (by simp)]
 unfold Yh
 rw [if_pos ⟨by omega, by omega, by simp; omega⟩]; simp
end
end Go.E
/- Plain Lean: whether something is a road: the program's answer and the document's are one. No condition. -/
namespace Go.E
open Go
theorem J4 {α : Type} {l : List α} {f : α -> Bool} (hl : l.length < 1000000) {step : Int -> Option (Int ⊕ Int)}
  (h0 : step (l.length : Int) = some (.inr (-1))) (h : ∀ (i : Nat) a, l[i]? = some a -> step (i : Int) = if f a = true then some (.inr (i : Int)) else some (.inl ((i + 1 : Nat) : Int))) :
  ∃ t, AO step 0 = some t /\ ((t = -1 /\ l.find? f = none) \/ ∃ a, 0 <= t /\ l.find? f = some a /\ Ad l t = some a) := by
 have key : ∀ (r : List α) (i : Nat), l.drop i = r -> i <= l.length -> ∃ t, AO step (i : Int) = some t /\ ((t = -1 /\ r.find? f = none) \/ ∃ a, 0 <= t /\ r.find? f = some a /\ Ad l t = some a) := by
  intro r
  induction r with
  | nil =>
   intro i hd hi
   have : i = l.length := by have := congrArg List.length hd; simp at this; omega
   subst this
   exact ⟨-1, CV h0, .inl ⟨rfl, rfl⟩⟩
  | cons a r ih =>
   intro i hd hi
   have hlt : i < l.length := by have := congrArg List.length hd; simp at this; omega
   have ha : l[i]? = some a := by
    have : (l.drop i)[0]? = some a := by rw [hd]; rfl
    simpa using this
   have hr : l.drop (i + 1) = r := by
    have : (l.drop i).drop 1 = r := by rw [hd]; rfl
    rwa [List.drop_drop] at this
   by_cases c : f a = true
   .exact ⟨i, CV (by rw [h i a ha, if_pos c]), .inr ⟨a, by omega, by simp [c], by rw [AY, ha]⟩⟩
   obtain ⟨t, h1, h2⟩ := ih (i + 1) hr (by omega)
   refine ⟨t, by rw [CL (by rw [h i a ha, if_neg c]), h1], ?_⟩
   simpa [List.find?_cons, c] using h2
 exact key l 0 rfl (Nat.zero_le _)
def XF (l : List Cx) (o : Int) : Option Cx := l.find? fun w => w.out == o
def DF (p : AH) (a : Int) : Option AD -> List Ar -> List AN -> List Ar -> Option (List AN)
 | _, _, nd, [] => some nd
 | none, _, _, _ :: _ => none
 | some x, pv, nd, s :: r => if s.elem ≠ x.elem \/ s.in_ ≠ x.fin \/ s.elem = a \/ s.elem ∈ pv.map (·.elem) then none else if Af p s.elem = 4 then (if r = [] /\ s.out = -1 then some nd else none) else match XF (CC p s.elem s.in_) s.out with
  | none => none
  | some w => if r ≠ [] /\ 0 <= Az p ⟨s.elem, s.out⟩ then none else DF p a (Ap p ⟨s.elem, s.out⟩) (pv ++ [s]) (Ic nd s.elem w.pos) r
def Mg (p : AH) (fin to : Int) (l : Ar) : Bool :=
 if Af p l.elem = 4 then decide (fin = 2 /\ to = -1) else if 0 <= Az p ⟨l.elem, l.out⟩ then decide (fin = 1 /\ to = Az p ⟨l.elem, l.out⟩) else (Ap p ⟨l.elem, l.out⟩).isNone && decide (fin = 3 /\ to = -1)
def UI (p : AH) (r : AQ) : Bool := match Ad p.signals r.frm with
 | none => false
 | some sg => if r.steps.length < 1 \/ 12 < r.steps.length then false else match DF p sg.at_.elem (Ap p sg.at_) [] [] r.steps with
  | none => false
  | some nd => match r.steps.getLast? with
   | none => false
   | some l => Mg p r.fin r.to l && decide (r.needs = nd)
theorem P5 {p : AH} {a : Int} : ∀ {r : List Ar} {x : Option AD} {pv : List Ar} {nd nd' : List AN}, DF p a x pv nd r = some nd' -> nd'.length <= nd.length + r.length
 | [], x, pv, nd, nd', h => by
  have : nd = nd' := by cases x <;> simpa [DF] using h
  subst this; simp
 | s :: r, none, pv, nd, nd', h => by simp [DF] at h
 | s :: r, some x, pv, nd, nd', h => by
  unfold DF at h
  split at h
  .cases h
  split at h
  .split at h
   .cases h; simp
   cases h
  split at h
  .cases h
  split at h
  .cases h
  have h1 := P5 h
  rename_i w _ _
  have h2 := S8 nd s.elem w.pos
  simp only [List.length_cons]; omega
section
variable {p : AH} {n : CJ}
end
end Go.E
/- Plain Lean: whether something is a road, as the document says; the roads of a signal are roads, and none is told twice. No condition. -/
namespace Go.E
open Go
theorem RB (p : AH) (e i : Int) : (CC p e i).Pairwise (fun a b => a.out ≠ b.out) := by
 unfold CC
 repeat' split
 all_goals simp
theorem RC {p : AH} {e i : Int} {w : Cx} (h : w ∈ CC p e i) : 0 <= w.out /\ w.out < CH (Af p e) /\ 0 <= i /\ i < CH (Af p e) /\ Af p e ≠ 4 /\ (w.pos ≠ 0 -> Af p e = 2 /\ (w.pos = 1 \/ w.pos = 2)) := by
 unfold CC at h
 cases hh : Cu p ⟨e, i⟩ with
 | false => rw [hh] at h; simp at h
 | true =>
  obtain ⟨h1, h2, h3⟩ := Ec hh
  simp only at h1 h2 h3
  rw [hh] at h
  simp only [if_true] at h
  by_cases k1 : Af p e = 1
  .rw [k1] at h h3 ⊢
   simp [CH] at h h3 ⊢
   subst h
   simp; omega
  by_cases k3 : Af p e = 3
  .rw [k3] at h h3 ⊢
   simp [CH] at h h3 ⊢
   subst h
   simp
   split
   .omega
   split
   .omega
   split <;> omega
  by_cases k2 : Af p e = 2
  .rw [k2] at h h3 ⊢
   simp [CH] at h h3 ⊢
   by_cases i0 : i = 0
   .subst i0
    simp at h
    rcases h with rfl | rfl <;> simp
   rw [if_neg i0] at h
   simp at h
   subst h
   simp; omega
  rw [if_neg k1, if_neg k3, if_neg k2] at h; simp at h
theorem S9 : ∀ {l : List Cx} {w : Cx}, l.Pairwise (fun a b => a.out ≠ b.out) -> w ∈ l -> XF l w.out = some w
 | a :: l, w, hp, hm => by
  rw [List.pairwise_cons] at hp
  unfold XF
  rw [List.find?_cons]
  rcases List.mem_cons.1 hm with rfl | hm
  .simp
  have := hp.1 w hm
  have e : (a.out == w.out) = false := beq_eq_false_iff_ne.2 this
  simp only [e]
  exact S9 hp.2 hm
section
variable {p : AH} {n : CJ}
structure OnR (p : AH) (a s : Int) (x : AD) (st : List Ar) (nd : List AN) (r : AQ) (t : List Ar) : Prop where
 frm : r.frm = s
 guards : r.guards = []
 zone : r.zone = []
 holds : r.holds = []
 bare : r.bare = false
 steps : r.steps = st ++ t
 ne : t ≠ []
 len : r.steps.length <= 12
 all : DF p a (some x) st nd t = some r.needs
 tail : ∀ l, t.getLast? = some l -> Mg p r.fin r.to l = true
theorem O7 (s a : Int) : ∀ (k : Nat) (st : List Ar) (nd : List AN) (x : AD) (r : AQ), st.length + k = 13 -> r ∈ Mz p s k st nd x (a :: st.map (·.elem)) -> ∃ t, OnR p a s x st nd r t /\ ∃ u t', t = u :: t' /\ u.elem = x.elem /\ u.in_ = x.fin
 | 0, st, nd, x, r, hk, hr => by simp [Mz] at hr
 | k + 1, st, nd, x, r, hk, hr => by
  rw [Mf] at hr
  by_cases hm : x.elem ∈ a :: st.map (·.elem) \/ st.length = 12
  .rw [if_pos hm] at hr; simp at hr
  rw [if_neg hm] at hr
  have hm1 : x.elem ∉ a :: st.map (·.elem) := fun h => hm (.inl h)
  have hm2 : ¬ (x.elem ≠ x.elem \/ x.fin ≠ x.fin \/ x.elem = a \/ x.elem ∈ st.map (·.elem)) := by
   rintro (h1 | h1 | h1 | h1)
   .exact h1 rfl
   .exact h1 rfl
   .exact hm1 (by rw [h1]; simp)
   exact hm1 (List.mem_cons_of_mem _ h1)
  have hlen : st.length < 12 := by
   have : st.length ≠ 12 := fun h => hm (.inr h)
   omega
  by_cases k4 : Af p x.elem = 4
  .rw [if_pos k4] at hr
   simp at hr
   subst hr
   refine ⟨[⟨x.elem, x.fin, -1⟩], ⟨rfl, rfl, rfl, rfl, rfl, rfl, by simp, by simp [H5]; omega, ?_, ?_⟩, _, _, rfl, rfl, rfl⟩
   .simp only [DF, if_neg hm2, if_pos k4, H5, true_and, if_true]
   intro l hl
   simp at hl
   subst hl
   simp [Mg, k4, H5]
  rw [if_neg k4] at hr
  obtain ⟨w, hw, hr⟩ := List.mem_flatMap.1 hr
  have hway := S9 (RB p x.elem x.fin) hw
  unfold Hs at hr
  by_cases hrd : 0 <= Az p ⟨x.elem, w.out⟩
  .rw [if_pos hrd] at hr
   simp at hr
   subst hr
   refine ⟨[⟨x.elem, x.fin, w.out⟩], ⟨rfl, rfl, rfl, rfl, rfl, rfl, by simp, by simp [H5]; omega, ?_, ?_⟩, _, _, rfl, rfl, rfl⟩
   .unfold DF; rw [if_neg hm2, if_neg k4, hway]; simp [DF, H5]
   intro l hl
   simp at hl
   subst hl
   simp [Mg, k4, H5, hrd]
  rw [if_neg hrd] at hr
  cases hnx : Ap p ⟨x.elem, w.out⟩ with
  | none =>
   rw [hnx] at hr
   simp at hr
   subst hr
   refine ⟨[⟨x.elem, x.fin, w.out⟩], ⟨rfl, rfl, rfl, rfl, rfl, rfl, by simp, by simp [H5]; omega, ?_, ?_⟩, _, _, rfl, rfl, rfl⟩
   .unfold DF; rw [if_neg hm2, if_neg k4, hway]; simp [DF, H5]
   intro l hl
   simp at hl
   subst hl
   simp [Mg, k4, H5, hrd, hnx]
  | some y =>
   rw [hnx] at hr
   have hmm : a :: st.map (·.elem) ++ [x.elem] = a :: (st ++ [(⟨x.elem, x.fin, w.out⟩ : Ar)]).map (·.elem) := by simp
   simp only at hr
   rw [hmm] at hr
   obtain ⟨t, ht, u, t', htu, -, -⟩ := O7 s a k (st ++ [⟨x.elem, x.fin, w.out⟩]) (Ic nd x.elem w.pos) y r (by simp; omega) hr
   refine ⟨⟨x.elem, x.fin, w.out⟩ :: t, ⟨ht.frm, ht.guards, ht.zone, ht.holds, ht.bare, by rw [ht.steps]; simp, by simp, ht.len, ?_, ?_⟩, _, _, rfl, rfl, rfl⟩
   .unfold DF
    rw [if_neg hm2, if_neg k4, hway]
    dsimp only
    rw [if_neg (fun h => hrd h.2), hnx]
    exact ht.all
   intro l hl
   refine ht.tail l ?_
   rw [htu] at hl ⊢
   rwa [List.getLast?_cons_cons] at hl
theorem Eb {s : Int} {r : AQ} (h : r ∈ GE p s) : UI p r = true /\ r.frm = s /\ r.guards = [] /\ r.zone = [] /\ r.holds = [] /\ r.bare = false /\ r.steps.length <= 12 /\ 1 <= r.steps.length /\ r.needs.length <= 12 := by
 unfold GE at h
 cases hi : Ad p.signals s with
 | none => rw [hi] at h; simp at h
 | some sg =>
  rw [hi] at h
  simp only at h
  cases hx : Ap p sg.at_ with
  | none => rw [hx] at h; simp at h
  | some y =>
   rw [hx] at h
   simp only at h
   obtain ⟨t, ht, -⟩ := O7 s sg.at_.elem 13 [] [] y r rfl (by simpa using h)
   have hst : r.steps = t := by rw [ht.steps]; rfl
   have hlen : 1 <= r.steps.length := by
    rw [hst]
    exact List.length_pos_iff.2 ht.ne
   have hl2 := ht.len
   have hnl := P5 ht.all
   rw [<- hst] at hnl
   simp only [List.length_nil] at hnl
   refine ⟨?_, ht.frm, ht.guards, ht.zone, ht.holds, ht.bare, ht.len, hlen, by omega⟩
   unfold UI
   rw [ht.frm, hi]
   simp only
   rw [if_neg (by omega), hx, hst, ht.all]
   obtain ⟨l, hl⟩ : ∃ l, t.getLast? = some l := by
    rw [List.getLast?_eq_getElem?]
    rw [hst] at hlen
    exact ⟨_, List.getElem?_eq_getElem (by omega)⟩
   simp only [hl, ht.tail l hl, decide_true, Bool.and_true]
theorem RD (s a : Int) (k : Nat) (st : List Ar) (nd : List AN) (x : AD) (w : Cx) (r : AQ) (hk : st.length + (k + 1) = 13) (h : r ∈ Hs p s k st nd x (a :: st.map (·.elem)) w) : r.steps[st.length]? = some ⟨x.elem, x.fin, w.out⟩ := by
 unfold Hs at h
 split at h
 .simp at h; subst h; simp [H5]
 split at h
 .simp at h; subst h; simp [H5]
 rename_i y hy
 have hmm : a :: st.map (·.elem) ++ [x.elem] = a :: (st ++ [(⟨x.elem, x.fin, w.out⟩ : Ar)]).map (·.elem) := by simp
 rw [hmm] at h
 obtain ⟨t, ht, -⟩ := O7 s a k _ _ y r (by simp; omega) h
 rw [ht.steps]; simp
theorem RE (s a : Int) : ∀ (k : Nat) (st : List Ar) (nd : List AN) (x : AD), st.length + k = 13 -> (Mz p s k st nd x (a :: st.map (·.elem))).Nodup
 | 0, st, nd, x, hk => by simp [Mz]
 | k + 1, st, nd, x, hk => by
  rw [Mf]
  split
  .simp
  split
  .simp
  unfold List.Nodup; rw [List.pairwise_flatMap]
  refine ⟨fun w hw => ?_, ?_⟩
  .unfold Hs
   split
   .simp
   split
   .simp
   rename_i y hy
   have hmm : a :: st.map (·.elem) ++ [x.elem] = a :: (st ++ [(⟨x.elem, x.fin, w.out⟩ : Ar)]).map (·.elem) := by simp
   rw [hmm]
   exact RE s a k _ _ y (by simp; omega)
  refine (RB p x.elem x.fin).imp fun {w v} hwv => ?_
  rintro r hr1 r2 hr2 rfl
  have h1 := RD s a k st nd x w r (by omega) hr1
  have h2 := RD s a k st nd x v r (by omega) hr2
  rw [h1] at h2
  simp at h2
  exact hwv h2
theorem WB (s : Int) : (GE p s).Nodup := by
 unfold GE
 split
 .simp
 split
 .simp
 rename_i sg _ _ y _
 have := RE (p := p) s sg.at_.elem 13 [] [] y rfl
 simpa using this
end
end Go.E
/- Plain Lean: RoadOfs, RoadAlls, RoadIsOne, RoadTurned and RoadEach answer true, for every argument. No condition. -/
namespace Go.E
open Go
theorem Z9 {n : Int} (h : (Lit.int .u8 n).wf = true) : 0 <= n /\ n <= 255 /\ AX n = n := by
 have : 0 <= n /\ n <= 255 := by simpa [Lit.wf, IntKind.min, IntKind.max, IntKind.signed, IntKind.bits] using h
 exact ⟨this.1, this.2, by rw [CG] <;> omega⟩
section
variable {p : AH} {n : CJ}
theorem YM (s : Int) : (GE p s).length <= 2 ^ 13 := by
 unfold GE
 split
 .simp
 split
 .simp
 exact Qh p s 13 _ _ _ _
def Ht (p : AH) (i : Nat) : List AQ := (List.range i).flatMap fun (s : Nat) => GE p (s : Int)
def Kd (p : AH) : List AQ := Ht p p.signals.length
theorem Nl (i : Nat) : Ht p (i + 1) = Ht p i ++ GE p (i : Int) := by
 unfold Ht
 rw [List.range_succ, List.flatMap_append]; simp
theorem XG {i : Nat} {r : AQ} (h : r ∈ Ht p i) : ∃ s : Int, r ∈ GE p s := by
 obtain ⟨s, _, hs⟩ := List.mem_flatMap.1 h
 exact ⟨_, hs⟩
theorem RG {i : Nat} : ∀ {j : Nat}, i <= j -> (Ht p i).length <= (Ht p j).length
  | 0, h => by have : i = 0 := by omega
               subst this; exact Nat.le_refl _
  | j + 1, h => by
    by_cases e : i = j + 1
    . subst e; exact Nat.le_refl _
    have := RG (i := i) (j := j) (by omega)
    rw [Nl, List.length_append]; omega
def D3 (p : AH) : List AQ × Int := if 64 < (Kd p).length then ([], 3) else (Kd p, 0)
theorem U9 (hv : CT p) : Ja p = some (D3 p) := by
 have hs := hv.ns
 unfold Ja
 obtain ⟨b, h1, h2⟩ := Bz (l := p.signals) (step := Ev p) (Post := fun b => b = D3 p) (fun i o => o = Ht p i /\ o.length <= 64) (c := [])
  (fun o ho => by
   refine ⟨D3 p, ?_, rfl⟩
   unfold D3 Kd
   rw [<- ho.1, if_neg (by omega)]
   simp [Ev])
  (fun i a o ha ho => by
   have hi := Ba ha
   have h2 := YM (p := p) (i : Int)
   have hb : o.length + (GE p (i : Int)).length <= 4294967296 := by have := ho.2; omega
   have hlen : (o ++ GE p (i : Int)) = Ht p (i + 1) := by rw [Nl, ho.1]
   by_cases c : 64 < (o ++ GE p (i : Int)).length
   .refine .inl ⟨([], 3), ?_, ?_⟩
    .have d : decide (64 < ((o ++ GE p (i : Int)).length : Int)) = true := by simp only [decide_eq_true_eq]; omega
     simp only [Ev, BQ ha, cond_true, Xp hv.few, Option.bind_some, BK hb, d]
    unfold D3 Kd
    have := RG (p := p) (show i + 1 <= p.signals.length by omega)
    rw [hlen] at c
    rw [if_pos (by omega)]
   refine .inr ⟨o ++ GE p (i : Int), ?_, hlen, by omega⟩
   have d : decide (64 < ((o ++ GE p (i : Int)).length : Int)) = false := by simp only [decide_eq_false_iff_not]; omega
   simp only [Ev, BQ ha, cond_true, Xp hv.few, Option.bind_some, BK hb, d, cond_false, AT (show i < 1000000000 by omega)])
  ⟨by simp [Ht], by simp⟩
 rw [h1, h2]
theorem O3 {r : AQ} (h : r ∈ (D3 p).1) : ∃ s : Int, r ∈ GE p s := by
 unfold D3 at h
 split at h
 .simp at h
 exact XG h
end
end Go.E
/- Plain Lean: RoadRuns answers true, for every argument. No condition. -/
namespace Go.E
open Go
def XH (pos : List Int) (e : Int) : Int := (Ad pos e).getD 0
section
variable {p : AH} {n : CJ}
theorem VA (p : AH) (e i : Int) : CC p e i = [] \/ (∃ w, CC p e i = [w]) \/ CC p e i = [⟨1, 1⟩, ⟨2, 2⟩] := by
 unfold CC
 split
 .split
  .exact .inr (.inl ⟨_, rfl⟩)
  split
  .exact .inr (.inl ⟨_, rfl⟩)
  split
  .split
   .exact .inr (.inr rfl)
   exact .inr (.inl ⟨_, rfl⟩)
  exact .inl rfl
 exact .inl rfl
theorem VB {e i x : Int} {w : Cx} (hw : w ∈ CC p e i) (hx : w.pos = 0 \/ w.pos = x) : BI p e i x = some w.out := by
 unfold BI
 rcases VA p e i with h | ⟨v, h⟩ | h
 .rw [h] at hw; simp at hw
 .rw [h] at hw ⊢
  simp at hw
  subst hw
  simp only [CX, if_pos hx]
 rw [h] at hw ⊢
 simp at hw
 rcases hw with rfl | rfl
 .simp only [CX, if_pos hx]
 have : x = 2 := by simp at hx; omega
 subst this
 simp [CX]
theorem Nm {e i x o : Int} (h : BI p e i x = some o) : ∃ w ∈ CC p e i, w.out = o /\ (w.pos = 0 \/ w.pos = x) := by
 unfold BI at h
 have key : ∀ l : List Cx, CX l x = some o -> ∃ w ∈ l, w.out = o /\ (w.pos = 0 \/ w.pos = x) := by
  intro l
  induction l with
  | nil => intro h; simp [CX] at h
  | cons w l ih =>
   intro h
   unfold CX at h
   split at h
   .rename_i hx
    exact ⟨w, by simp, by simpa using h, hx⟩
   obtain ⟨v, hv, h1⟩ := ih h
   exact ⟨v, by simp [hv], h1⟩
 exact key _ h
theorem VC {e : Int} (h : Af p e ≠ 0) : 0 <= e /\ e < p.elems.length := by
 unfold Af at h
 cases hi : Ad p.elems e with
 | none => rw [hi] at h; simp at h
 | some a => exact Qa hi
theorem K2 {r : AQ} (h : UI p r = true) : ∃ sg nd l, Ad p.signals r.frm = some sg /\ 1 <= r.steps.length /\ r.steps.length <= 12 /\ DF p sg.at_.elem (Ap p sg.at_) [] [] r.steps = some nd /\ r.steps.getLast? = some l /\ Mg p r.fin r.to l = true /\ r.needs = nd := by
 unfold UI at h
 cases hi : Ad p.signals r.frm with
 | none => rw [hi] at h; cases h
 | some sg =>
  rw [hi] at h
  simp only at h
  split at h
  .cases h
  cases hs : DF p sg.at_.elem (Ap p sg.at_) [] [] r.steps with
  | none => rw [hs] at h; cases h
  | some nd =>
   rw [hs] at h
   cases hl : r.steps.getLast? with
   | none => rw [hl] at h; cases h
   | some l =>
    rw [hl] at h
    simp only [Bool.and_eq_true, decide_eq_true_eq] at h
    exact ⟨sg, nd, l, rfl, by omega, by omega, hs, rfl, h.1, h.2⟩
end
end Go.E
/- Plain Lean: RoadRuns answers true, for every argument. No condition. -/
namespace Go.E
open Go
section
variable {p : AH} {n : CJ}
end
end Go.E
/- Plain Lean: RoadWhole answers true, for every argument. No condition. -/
namespace Go.E
open Go
section
variable {p : AH} {n : CJ}
end
end Go.E
/- Reach hands the keys of a map out in whatever order and sorts them: what it answers has no order in it; the example that the laws of sides AF at. No condition. -/
namespace Go.E
open Go Go.Proofs
theorem OX {a b : List Int} (h : a.Perm b) : Gv a = Gv b :=
 List.Perm.eq_of_pairwise (le := fun a b : Int => a <= b) (fun a b _ _ h1 h2 => Int.le_antisymm h1 h2) (J3 a) (J3 b) ((EO a).trans (h.trans (EO b).symm))
theorem IX {α : Type} : ∀ {l : List α} {j : Nat} {y : α}, l[j]? = some y -> (y :: l.eraseIdx j).Perm l
 | x :: l, 0, y, h => by
  rw [List.getElem?_cons_zero] at h
  cases h
  rw [List.eraseIdx_cons_zero]
 | x :: l, j + 1, y, h => by
  rw [List.getElem?_cons_succ] at h
  rw [List.eraseIdx_cons_succ]
  exact (List.Perm.swap x y _).trans ((IX h).cons x)
set_option maxRecDepth 100000
end Go.E
/- Plain Lean: the ports on the sides of a road, and what is its own: the program's answer and the document's are one (laws SidePorts, SideOwns). No condition. -/
namespace Go.E
open Go
theorem XK {l : List Ar} {e : Int} : decide (e ∈ l.map (·.elem)) = (l.find? fun s => s.elem == e).isSome := by
 induction l with
 | nil => simp
 | cons a l ih =>
  rw [List.find?_cons]
  by_cases c : a.elem = e
  .simp [c]
  have : (a.elem == e) = false := beq_eq_false_iff_ne.2 c
  rw [this]
  simp only [List.map_cons, List.mem_cons, Ne.symm c, false_or]
  exact ih
theorem ZF (r : AQ) (hl : r.steps.length < 1000000) (e : Int) : MY r e = some (decide (e ∈ r.steps.map (·.elem))) := by
 unfold MY
 obtain ⟨t, h1, h2⟩ := J4 (l := r.steps) (f := fun s => s.elem == e) hl (step := Hc r e) (by simp [Hc]) (fun i a ha => by
  have := Ba ha
  simp only [Hc, Nh, BQ ha, cond_true, AY, ha, Option.bind_some, AT (show i < 1000000000 by omega)]
  by_cases c : a.elem = e
  .simp [c]
  have : (a.elem == e) = false := beq_eq_false_iff_ne.2 c
  simp [this])
 rw [h1, XK]
 simp only [Option.bind_some, Option.some.injEq]
 rcases h2 with ⟨rfl, h2⟩ | ⟨a, h0, h2, _⟩
 .rw [h2]; rfl
 rw [h2]; simp [h0]
theorem YN (r : AQ) (hl : r.steps.length < 1000000) (e : Int) : Jb r e = some (decide (e ∈ r.steps.map (·.elem))) := by
 unfold Jb
 simp only [RA r hl, Option.bind_some, Md (r.steps.map (·.elem)) (by simpa using hl)]
theorem K3 {α β γ : Type} (B : Nat) {l : List α} (f : α -> List β) (hf : ∀ a, (f a).length <= 4) (hl : l.length <= 100000) {step : Int × List β -> Option (Int × List β ⊕ γ)} {fin : List β -> γ}
  (h0 : ∀ o, step ((l.length : Int), o) = some (.inr (fin o))) (h1 : ∀ (i : Nat) a o, l[i]? = some a -> o.length <= B + 400000 -> step ((i : Int), o) = some (.inl (((i + 1 : Nat) : Int), o ++ f a))) (o : List β) (ho : o.length <= B) :
  AO step ((0 : Int), o) = some (fin (o ++ l.flatMap f)) := by
 have hlen : ∀ i, ((l.take i).flatMap f).length <= i * 4 := by
  intro i
  induction i with
  | zero => simp
  | succ i ih =>
   rw [List.take_add_one, List.flatMap_append, List.length_append]
   cases h : l[i]? with
   | none => simp only [Option.toList_none, List.flatMap_nil, List.length_nil]; omega
   | some a =>
    have := hf a
    simp only [Option.toList_some, List.flatMap_cons, List.flatMap_nil, List.append_nil]
    omega
 obtain ⟨b, h2, rfl⟩ := Bz (l := l) (step := step) (Post := fun b => b = fin (o ++ l.flatMap f)) (fun i c => c = o ++ (l.take i).flatMap f) (c := o)
  (fun c hc => ⟨fin c, h0 c, by rw [hc, List.take_length]⟩)
  (fun i a c ha hc => by
   have hi := Ba ha
   have := hlen i
   refine .inr ⟨c ++ f a, h1 i a c ha (by rw [hc, List.length_append]; omega), ?_⟩
   rw [hc, List.take_add_one, ha]
   simp only [Option.toList_some, List.flatMap_append, List.flatMap_cons, List.flatMap_nil, List.append_nil, List.append_assoc])
  (by simp)
 exact h2
section
variable {p : AH} {n : CJ}
def JJ (p : AH) (s : Ar) : List Int :=
 if Af p s.elem = 2 then [AX (3 - (if s.out > s.in_ then s.out else s.in_))] else if Af p s.elem = 3 then (if 1 < s.in_ then [0, 1] else [2, 3]) else []
def JK (p : AH) (e : Int) (k : Int) : List AD := if (Ap p ⟨e, k⟩).isSome then [⟨e, k⟩] else []
def Jh (p : AH) (s : Ar) : List AD := (JJ p s).flatMap (JK p s.elem)
def DY (p : AH) (l : List Ar) : List AD := l.flatMap (Jh p)
theorem Nq (s : Ar) : (JJ p s).length <= 2 := by
 unfold JJ
 split
 .simp
 split
 .split <;> simp
 simp
theorem RJ (e k : Int) : (JK p e k).length <= 1 := by unfold JK; split <;> simp
theorem Mh (s : Ar) : (Jh p s).length <= 2 := by
 have := Jf (JK p s.elem) 1 (JJ p s) fun k _ => RJ s.elem k
 have := Nq (p := p) s
 unfold Jh
 omega
theorem Mi (l : List Ar) : (DY p l).length <= l.length * 2 := Jf _ 2 l fun s _ => Mh s
theorem XL (hn : Cr p n) (s : Ar) (c : Int × List AD) (ks : List Int) (hk : ks.length <= 10) (o : List AD) (ho : o.length <= 400000) :
  AO (GC n c s ks) (0, o) = some (.inl (AX (c.1 + 1), o ++ ks.flatMap (JK p s.elem))) := by
 refine K3 400000 (l := ks) (JK p s.elem) (fun k => by have := RJ (p := p) s.elem k; omega) (by omega) (fin := fun o => (Sum.inl (AX (c.1 + 1), o) : (Int × List AD) ⊕ List AD)) (fun o => ?_) (fun i a o ha hb => ?_) o ho
 .simp only [GC, B2, cond_false]
 have := Ba ha
 simp only [GC, BQ ha, cond_true, AY, ha, Option.bind_some, O6 hn, AT (show i < 1000000000 by omega)]
 unfold JK
 cases (Ap p ⟨s.elem, a⟩).isSome with
 | true => simp [BK (show o.length + [(⟨s.elem, a⟩ : AD)].length <= 4294967296 by simp; omega)]
 | false => simp
theorem XM (hn : Cr p n) (r : AQ) (hl : r.steps.length <= 1000) : KY n r = some (DY p r.steps) := by
 unfold KY
 rw [show DY p r.steps = ([] : List AD) ++ r.steps.flatMap (Jh p) from rfl]
 refine K3 0 (l := r.steps) (Jh p) (fun s => by have := Mh (p := p) s; omega) (by omega) (fin := fun o => o) (fun o => ?_) (fun i s o ha hb => ?_) [] (by simp)
 .simp only [IR, B2, cond_false]
 have hi := Ba ha
 simp only [IR, BQ ha, cond_true, AY, ha, Option.bind_some, O5 hn]
 have e : (bif (Af p s.elem == 2) then some [AX (3 - (if s.out > s.in_ then s.out else s.in_))] else bif (Af p s.elem == 3) then bif decide (1 < s.in_) then some [0, 1] else some [2, 3] else some ([] : List Int) : Option (List Int)) = some (JJ p s) := by
  unfold JJ
  by_cases c2 : Af p s.elem = 2
  .simp [c2]
  have b2 : (Af p s.elem == 2) = false := beq_eq_false_iff_ne.2 c2
  by_cases c3 : Af p s.elem = 3
  .by_cases d : 1 < s.in_ <;> simp [b2, c2, c3, d]
  have b3 : (Af p s.elem == 3) = false := beq_eq_false_iff_ne.2 c3
  simp [b2, b3, c2, c3]
 rw [e]
 have hk := Nq (p := p) s
 simp only [Option.bind_some, XL hn s ((i : Int), o) (JJ p s) (by omega) o (by omega), AT (show i < 1000000000 by omega)]
 rfl
theorem WC (hv : CT p) (e : Int) (c : Int × List AD) (ks : List Int) (hk : ks.length <= 10) (o : List AD) (ho : o.length <= 400000) :
  AO (Ew p c (ks.map fun k => (⟨e, k⟩ : AD))) (0, o) = some (.inl (AX (c.1 + 1), o ++ ks.flatMap (JK p e))) := by
 have hj := hv.nj
 have e1 : ks.flatMap (JK p e) = (ks.map fun k => (⟨e, k⟩ : AD)).flatMap fun x => if (Ap p x).isSome then [x] else [] := by
  rw [List.flatMap_map]; rfl
 rw [e1]
 refine K3 400000 (l := ks.map fun k => (⟨e, k⟩ : AD)) (fun x => if (Ap p x).isSome then [x] else []) (fun k => by split <;> simp) (by simp; omega) (fin := fun o => (Sum.inl (AX (c.1 + 1), o) : (Int × List AD) ⊕ List AD)) (fun o => ?_) (fun i a o ha hb => ?_) o ho
 .simp only [Ew, B2, cond_false]
 have hi := Ba ha
 rw [List.length_map] at hi
 simp only [Ew, BQ ha, cond_true, AY, ha, Option.bind_some, Ce p (by omega), AT (show i < 1000000000 by omega)]
 cases (Ap p a).isSome with
 | true => simp [BK (show o.length + [a].length <= 4294967296 by simp; omega)]
 | false => simp
theorem WD (hv : CT p) (r : AQ) (hl : r.steps.length <= 1000) : HO p r = some (DY p r.steps) := by
 unfold HO
 rw [show DY p r.steps = ([] : List AD) ++ r.steps.flatMap (Jh p) from rfl]
 refine K3 0 (l := r.steps) (Jh p) (fun s => by have := Mh (p := p) s; omega) (by omega) (fin := fun o => o) (fun o => ?_) (fun i s o ha hb => ?_) [] (by simp)
 .simp only [Gs, B2, cond_false]
 have hi := Ba ha
 have w1 : AX (0 + 1) = 1 := by decide
 have w3 : AX (2 + 1) = 3 := by decide
 simp only [Gs, BQ ha, cond_true, AY, ha, Option.bind_some, Kc]
 have e : (bif (Af p s.elem == 2) then (BJ ([] : List AD) [(⟨s.elem, AX (3 - (if s.out > s.in_ then s.out else s.in_))⟩ : AD)]).bind fun y => some y else bif (Af p s.elem == 3) then ((bif decide (2 <= s.in_) then some 0 else some 2 : Option (Int))).bind fun (t : Int) => (BJ ([] : List AD) [(⟨s.elem, t⟩ : AD), (⟨s.elem, AX (t + 1)⟩ : AD)]).bind fun y => some y else some ([] : List AD) : Option (List AD)) = some ((JJ p s).map fun k => (⟨s.elem, k⟩ : AD)) := by
  unfold JJ
  by_cases c2 : Af p s.elem = 2
  .simp [c2, BJ]
  have b2 : (Af p s.elem == 2) = false := beq_eq_false_iff_ne.2 c2
  by_cases c3 : Af p s.elem = 3
  .by_cases d : 1 < s.in_
   .have d2 : decide (2 <= s.in_) = true := by simp; omega
    simp only [b2, c2, c3, d, d2, cond_false, cond_true, if_false, if_true, beq_self_eq_true, Option.bind_some, w1, BJ, List.length_nil, List.length_cons, List.nil_append, List.map_cons, List.map_nil]
    simp
   have d2 : decide (2 <= s.in_) = false := by simp; omega
   simp only [b2, c2, c3, d, d2, cond_false, cond_true, if_false, if_true, beq_self_eq_true, Option.bind_some, w3, BJ, List.length_nil, List.length_cons, List.nil_append, List.map_cons, List.map_nil]
   simp
  have b3 : (Af p s.elem == 3) = false := beq_eq_false_iff_ne.2 c3
  simp [b2, b3, c2, c3]
 rw [e]
 have hk := Nq (p := p) s
 simp only [Option.bind_some, WC hv s.elem ((i : Int), o) (JJ p s) (by omega) o (by omega), AT (show i < 1000000000 by omega)]
 rfl
theorem H4 {s : Int} {r : AQ} (h : r ∈ GE p s) : r.steps.length <= 12 := (Eb h).2.2.2.2.2.2.1
end
end Go.E
/- Plain Lean: which ports lie on the sides of a road (law SideApart). No condition. -/
namespace Go.E
open Go
section
variable {p : AH} {n : CJ}
theorem YO (k : Int) : 0 <= CH k /\ CH k <= 4 := by
 unfold CH
 repeat' split
 all_goals omega
end
end Go.E
/- Plain Lean: what the sides of a road reach, told without an order (M0, J5): the program's answer. No condition. -/
namespace Go.E
open Go
def BZ (vis : List (AD × Bool)) (x : AD) : Bool := (AU vis x).getD false
theorem FZ (vis : List (AD × Bool)) (x y : AD) : BZ (Av x true vis) y = true ↔ y = x \/ BZ vis y = true := by
 unfold BZ
 rw [Cp]
 by_cases e : y = x <;> simp [e]
theorem LQ {α : Type} {P P' : α -> Bool} (hpp : ∀ z, P' z = true -> P z = true) : ∀ l : List α, (l.filter P').length <= (l.filter P).length /\ ∀ x ∈ l, P x = true -> P' x = false -> (l.filter P').length + 1 <= (l.filter P).length
 | [] => ⟨Nat.le_refl _, by simp⟩
 | a :: l => by
  obtain ⟨h1, h2⟩ := LQ hpp l
  rw [List.filter_cons, List.filter_cons]
  by_cases c : P' a = true
  .rw [if_pos c, if_pos (hpp a c)]
   simp only [List.length_cons]
   refine ⟨by omega, fun x hx hp hp' => ?_⟩
   rcases List.mem_cons.1 hx with rfl | hx
   .rw [c] at hp'; cases hp'
   have := h2 x hx hp hp'; omega
  rw [if_neg c]
  by_cases d : P a = true
  .rw [if_pos d]
   simp only [List.length_cons]
   exact ⟨by omega, fun x hx hp hp' => by omega⟩
  rw [if_neg d]
  refine ⟨h1, fun x hx hp hp' => ?_⟩
  rcases List.mem_cons.1 hx with rfl | hx
  .exact absurd hp d
  exact h2 x hx hp hp'
section
variable {p : AH} {n : CJ}
def OI (p : AH) (shut : List Bool) (x : AD) : Bool := decide (0 <= Az p x) && (Ad shut (Az p x)).getD false
inductive M0 (p : AH) (pos : List Int) (shut : List Bool) (st : List Ar) : AD -> Prop
 | init {x y : AD} : x ∈ DY p st -> Ap p x = some y -> M0 p pos shut st y
 | step {x y : AD} {o : Int} : M0 p pos shut st x -> x.elem ∉ st.map (·.elem) -> OI p shut x = false -> Af p x.elem ≠ 4 -> BI p x.elem x.fin (XH pos x.elem) = some o -> Ap p ⟨x.elem, o⟩ = some y -> M0 p pos shut st y
def J5 (p : AH) (pos : List Int) (shut : List Bool) (st : List Ar) (e : Int) : Prop :=
 ∃ x, M0 p pos shut st x /\ x.elem = e /\ e ∉ st.map (·.elem) /\ OI p shut x = false /\ (Af p e = 4 \/ (BI p e x.fin (XH pos e)).isSome = true)
variable {pos : List Int} {shut : List Bool} {r : AQ}
theorem M0.from {st : List Ar} {y : AD} (h : M0 p pos shut st y) : ∃ x, Ap p x = some y := by
 cases h with
 | init h1 h2 => exact ⟨_, h2⟩
 | step _ _ _ _ _ h2 => exact ⟨_, h2⟩
theorem WE {x : AD} (h : Cu p x = true) : 0 <= x.elem /\ x.elem < p.elems.length := by
 obtain ⟨h1, h2, h3⟩ := Ec h
 refine VC fun e => ?_
 rw [e] at h3
 simp [CH] at h3
 omega
def P7 (vis : List (AD × Bool)) (zone : List (Int × Bool)) (p : AH) (y : AD) : Prop := BZ vis y = true \/ (Af p y.elem = 4 /\ (AU zone y.elem).isSome = true)
def VG (p : AH) (pos : List Int) (shut : List Bool) (st : List Ar) (q : List AD) (vis : List (AD × Bool)) (zone : List (Int × Bool)) (x : AD) : Prop :=
 x.elem ∉ st.map (·.elem) -> OI p shut x = false -> Af p x.elem ≠ 4 /\ ∀ o, BI p x.elem x.fin (XH pos x.elem) = some o -> (AU zone x.elem).isSome = true /\ ∀ y, Ap p ⟨x.elem, o⟩ = some y -> y ∈ q \/ P7 vis zone p y
def Gg (p : AH) (vis : List (AD × Bool)) : Nat := ((CD p).filter fun x => !BZ vis x).length
structure RI (p : AH) (pos : List Int) (shut : List Bool) (st : List Ar) (M k : Nat) (q : List AD) (vis : List (AD × Bool)) (zone : List (Int × Bool)) : Prop where
 arr : ∀ x ∈ q, M0 p pos shut st x
 full : ∀ x, BZ vis x = true -> VG p pos shut st q vis zone x
 init : ∀ x y, x ∈ DY p st -> Ap p x = some y -> y ∈ q \/ P7 vis zone p y
 zon : ∀ e, (AU zone e).isSome = true -> J5 p pos shut st e
 nodup : (zone.map (·.1)).Nodup
 len : zone.length <= k
 meas : k + q.length + 2 * Gg p vis <= M
theorem RI.next {st : List Ar} {M k : Nat} {x : AD} {q q' : List AD} {vis vis' : List (AD × Bool)} {zone zone' : List (Int × Bool)} (h : RI p pos shut st M k (x :: q) vis zone)
  (hq : ∀ y ∈ q, y ∈ q') (hq2 : ∀ y ∈ q', M0 p pos shut st y) (hv : ∀ y, BZ vis y = true -> BZ vis' y = true) (hv2 : ∀ y, BZ vis' y = true -> BZ vis y = true \/ y = x)
  (hz : ∀ e, (AU zone e).isSome = true -> (AU zone' e).isSome = true) (hz2 : ∀ e, (AU zone' e).isSome = true -> J5 p pos shut st e) (hz3 : (zone'.map (·.1)).Nodup) (hz4 : zone'.length <= zone.length + 1)
  (hx : P7 vis' zone' p x) (hf : BZ vis' x = true -> BZ vis x = false -> VG p pos shut st q' vis' zone' x) (hm : q'.length + 2 * Gg p vis' <= q.length + 2 * Gg p vis) : RI p pos shut st M (k + 1) q' vis' zone' := by
 have keep : ∀ y, (y ∈ x :: q \/ P7 vis zone p y) -> y ∈ q' \/ P7 vis' zone' p y := by
  rintro y (hy | hy | ⟨hy, hy2⟩)
  .rcases List.mem_cons.1 hy with rfl | hy
   .exact .inr hx
   exact .inl (hq y hy)
  .exact .inr (.inl (hv y hy))
  exact .inr (.inr ⟨hy, hz _ hy2⟩)
 refine ⟨hq2, fun y hy => ?_, fun a y ha hy => keep y (h.init a y ha hy), hz2, hz3, by have := h.len; omega, by have := h.meas; simp only [List.length_cons] at this; omega⟩
 have old : BZ vis y = true -> VG p pos shut st q' vis' zone' y := fun hy => fun h1 h2 => by
  obtain ⟨g1, g2⟩ := h.full y hy h1 h2
  exact ⟨g1, fun o ho => ⟨hz _ (g2 o ho).1, fun z hz' => keep z ((g2 o ho).2 z hz')⟩⟩
 rcases hv2 y hy with hy' | rfl
 .exact old hy'
 cases c : BZ vis y with
 | true => exact old c
 | false => exact hf hy c
end
end Go.E
/- Plain Lean: the elements that Reach answers are those of J5, ascending (laws SideShut, SideRuns). No condition. -/
namespace Go.E
open Go
section
variable {p : AH} {n : CJ} {pos : List Int} {shut : List Bool} {r : AQ}
theorem WF {vis : List (AD × Bool)} (x : AD) : Gg p (Av x true vis) <= Gg p vis :=
 (LQ (fun z hz => by
  cases hs : BZ vis z with
  | false => rfl
  | true =>
   have := (FZ vis x z).2 (.inr hs)
   simp only [this, Bool.not_true] at hz
   cases hz) (CD p)).1
theorem TB {vis : List (AD × Bool)} {x : AD} (hx : x ∈ CD p) (hv : BZ vis x = false) : Gg p (Av x true vis) + 1 <= Gg p vis :=
 (LQ (fun z hz => by
  cases hs : BZ vis z with
  | false => rfl
  | true =>
   have := (FZ vis x z).2 (.inr hs)
   simp only [this, Bool.not_true] at hz
   cases hz) (CD p)).2 x hx (by simp [hv]) (by simp [(FZ vis x x).2 (.inl rfl)])
def D4 (p : AH) (l : List AD) : List AD := l.map fun x => (Ap p x).getD ⟨0, 0⟩
theorem Ke {l : List Ar} {x : AD} (h : x ∈ DY p l) : ∃ y, Ap p x = some y := by
 unfold DY Jh at h
 obtain ⟨s, _, h⟩ := List.mem_flatMap.1 h
 obtain ⟨k, _, h⟩ := List.mem_flatMap.1 h
 unfold JK at h
 split at h
 .rename_i hs
  simp at h
  subst h
  exact Option.isSome_iff_exists.1 hs
 simp at h
theorem RK {a b : List Bool} (h : ∀ j : Nat, a[j]? = some true -> b[j]? = some true) {x : AD} (hs : OI p b x = false) : OI p a x = false := by
 unfold OI at *
 by_cases c : 0 <= Az p x
 .obtain ⟨i, hi⟩ := Int.eq_ofNat_of_zero_le c
  rw [hi] at hs ⊢
  simp only [AY, Int.natCast_nonneg, decide_true, Bool.true_and] at hs ⊢
  cases ha : a[i]? with
  | none => rfl
  | some v =>
   cases v with
   | false => rfl
   | true => rw [h i ha] at hs; cases hs
 simp [c]
theorem M0.mono {a b : List Bool} (h : ∀ j : Nat, a[j]? = some true -> b[j]? = some true) {st : List Ar} {x : AD} (hx : M0 p pos b st x) : M0 p pos a st x := by
 induction hx with
 | init h1 h2 => exact .init h1 h2
 | step h1 h2 h3 h4 h5 h6 ih => exact .step ih h2 (RK h h3) h4 h5 h6
theorem J5.mono {a b : List Bool} (h : ∀ j : Nat, a[j]? = some true -> b[j]? = some true) {st : List Ar} {e : Int} (hx : J5 p pos b st e) : J5 p pos a st e := by
 obtain ⟨x, h1, h2, h3, h4, h5⟩ := hx
 exact ⟨x, h1.mono h, h2, h3, RK h h4, h5⟩
theorem J5.range (hv : CT p) {st : List Ar} {e : Int} (h : J5 p pos shut st e) : 0 <= e /\ e < p.elems.length := by
 obtain ⟨x, h1, rfl, _⟩ := h
 obtain ⟨w, hw⟩ := h1.from
 exact WE (hv.join.next hw)
end
end Go.E
/- Plain Lean: what is reached is in order, outside the road, and no more if more signals are shut (law SideShut); a run that comes in from the side begins in it (law SideRuns). No condition. -/
namespace Go.E
open Go
section
variable {p : AH} {n : CJ} {pos : List Int} {shut : List Bool} {r : AQ}
end
end Go.E
/- Plain Lean: a run that comes in from the side begins in an element that is reached (law SideRuns). No condition. -/
namespace Go.E
open Go
theorem Mj {x : AD} : ∀ {l m : List Bk}, x ∉ (l.flatMap fun j => [j.a, j.b]) -> Cb (l ++ m) x = Cb m x
 | [], m, _ => rfl
 | j :: l, m, h => by
  simp only [List.flatMap_cons, List.mem_append, List.mem_cons, List.not_mem_nil, or_false, not_or] at h
  obtain ⟨⟨h1, h2⟩, h3⟩ := h
  simp only [List.cons_append, Cb]
  rw [if_neg (fun e => h1 e.symm), if_neg (fun e => h2 e.symm)]
  exact Mj h3
theorem OZ {x y : AD} : ∀ {l : List Bk}, Cb l x = some y -> ∃ l1 j l2, l = l1 ++ j :: l2 /\ ((j.a = x /\ j.b = y) \/ (j.b = x /\ j.a = y))
 | j :: l, h => by
  simp only [Cb] at h
  split at h
  .rename_i e; cases h; exact ⟨[], j, l, rfl, .inl ⟨e, rfl⟩⟩
  split at h
  .rename_i e; cases h; exact ⟨[], j, l, rfl, .inr ⟨e, rfl⟩⟩
  obtain ⟨l1, k, l2, e, hk⟩ := OZ h
  exact ⟨j :: l1, k, l2, by rw [e]; rfl, hk⟩
section
variable {p : AH} {n : CJ} {pos : List Int} {shut : List Bool} {r : AQ}
theorem Tl (hj : Gy p) : (CD p).Nodup := by
 rw [List.Nodup, List.pairwise_iff_getElem]
 intro i k hi hk hlt
 exact hj.dist k i _ _ hlt (List.getElem?_eq_getElem hk) (List.getElem?_eq_getElem hi)
theorem RL (hj : Gy p) {x y : AD} (h : Ap p x = some y) : Ap p y = some x := by
 obtain ⟨l1, j, l2, e, hk⟩ := OZ h
 have hnd := Tl hj
 unfold CD at hnd
 unfold Ap
 rw [e] at hnd ⊢
 rw [List.flatMap_append, List.flatMap_cons, List.nodup_append] at hnd
 obtain ⟨_, h2, h3⟩ := hnd
 have ha : j.a ∉ l1.flatMap fun j => [j.a, j.b] := fun hm => h3 _ hm _ (by simp) rfl
 have hb : j.b ∉ l1.flatMap fun j => [j.a, j.b] := fun hm => h3 _ hm _ (by simp) rfl
 have hab : j.a ≠ j.b := by
  rw [List.nodup_append] at h2
  have := h2.1
  simpa using this
 rcases hk with ⟨rfl, rfl⟩ | ⟨rfl, rfl⟩
 .rw [Mj hb]
  simp [Cb, hab]
 rw [Mj ha]
 simp [Cb]
theorem WG {e i : Int} {w : Cx} (h : w ∈ CC p e i) : (⟨i, w.pos⟩ : Cx) ∈ CC p e w.out := by
 obtain ⟨f1, f2, f3, f4, f5, _⟩ := RC h
 have hh : Cu p ⟨e, i⟩ = true := by simp [Cu, f3, f4]
 have hh2 : Cu p ⟨e, w.out⟩ = true := by simp [Cu, f1, f2]
 unfold CC at h ⊢
 rw [hh] at h
 rw [hh2]
 simp only [if_true] at h ⊢
 by_cases k1 : Af p e = 1
 .rw [if_pos k1] at h ⊢
  simp at h
  subst h
  simp; omega
 rw [if_neg k1] at h ⊢
 by_cases k3 : Af p e = 3
 .rw [if_pos k3] at h ⊢
  rw [k3] at f4
  simp [CH] at f4
  simp at h
  subst h
  have : i = 0 \/ i = 1 \/ i = 2 \/ i = 3 := by omega
  rcases this with rfl | rfl | rfl | rfl <;> simp
 rw [if_neg k3] at h ⊢
 by_cases k2 : Af p e = 2
 .rw [if_pos k2] at h ⊢
  rw [k2] at f4
  simp [CH] at f4
  by_cases i0 : i = 0
  .subst i0
   simp at h
   rcases h with rfl | rfl <;> simp
  rw [if_neg i0] at h
  simp at h
  subst h
  have : i = 1 \/ i = 2 := by omega
  rcases this with rfl | rfl <;> simp
 rw [if_neg k2] at h; simp at h
theorem Nr {e i x o : Int} (h : BI p e i x = some o) : BI p e o x = some i := by
 obtain ⟨w, hw, rfl, hx⟩ := Nm h
 have := WG hw
 exact VB this hx
end
end Go.E
/- Plain Lean: what the sides of a road reach: the document's answer and the program's are one (law SideReaches). No condition. -/
namespace Go.E
open Go
theorem VH (l : List AD) (hl : l.length < 1000000) (x : AD) : Ft l x = some (decide (x ∈ l)) := by
 unfold Ft
 obtain ⟨b, h1, h2⟩ := Bu (l := l) (step := DL l x) (Post := fun b => b = decide (x ∈ l)) (fun _ y => y ≠ x) (fun good => ⟨false, by simp [DL], by
   symm; rw [decide_eq_false_iff_not]; intro hm
   obtain ⟨i, hi⟩ := List.getElem?_of_mem hm
   exact good i x hi rfl⟩) (fun i a ha _ => by
   have := Ba ha
   by_cases e : a = x
   .exact .inl ⟨true, by simp only [DL, BQ ha, cond_true, AY, ha, Option.bind_some, e, beq_self_eq_true], by symm; rw [decide_eq_true_iff]; subst e; exact List.mem_of_getElem? ha⟩
   have : (a == x) = false := beq_eq_false_iff_ne.2 e
   exact .inr ⟨by simp only [DL, BQ ha, cond_true, AY, ha, Option.bind_some, this, cond_false, AT (show i < 1000000000 by omega)], e⟩)
 rw [h1, h2]
section
variable {p : AH} {n : CJ} {pos : List Int} {shut : List Bool} {r : AQ}
theorem Rc (p : AH) (e i x : Int) : Ge p e i x = some ((BI p e i x).getD 0, (BI p e i x).isSome) := by
 unfold Ge BI
 rw [P2]
 simp only [Option.bind_some]
 have hl := K0 p e i
 refine Jd (γ := Unit) (CC p e i) (fun k _ => (k : Int)) (fun _ _ r => some ((CX r x).getD 0, (CX r x).isSome)) (fun _ => ?_) (fun k _ a r ha hi => ?_) ()
 .simp [GD, CX]
 simp only [GD, AY, ha, Option.bind_some, BQ ha, cond_true, CX, D1]
 by_cases h1 : a.pos = 0
 .left; simp [h1]
 by_cases h2 : a.pos = x
 .left
  simp [h1, h2]
 right
 have : (a.pos == x) = false := beq_eq_false_iff_ne.2 h2
 exact ⟨(), by simp [h1, this, AT (show k < 1000000000 by omega)], by simp [h1, h2]⟩
theorem M1 {e f x o : Int} (h : BI p e f x = some o) : 0 <= o /\ o < CH (Af p e) := by
 obtain ⟨w, hw, rfl, _⟩ := Nm h
 have := RC hw
 exact ⟨this.1, this.2.1⟩
theorem VI (p : AH) (e f x : Int) : Jc p e f x = some ((BI p e f x).getD 0, (BI p e f x).isSome) := by
 unfold Jc
 have he := YO (Af p e)
 obtain ⟨b, h1, rfl⟩ := EE (step := IT p e f x) (Post := fun b => b = ((BI p e f x).getD 0, (BI p e f x).isSome)) (fun k i => i = (k : Int) /\ (k : Int) <= CH (Af p e) /\ ∀ o, BI p e f x = some o -> (k : Int) <= o) 5 (s := (0 : Int)) (by
  rintro k i ⟨rfl, h2, h3⟩
  simp only [IT, D2, IY, Option.bind_some]
  by_cases d : (k : Int) < CH (Af p e)
  .rw [decide_eq_true d]
   simp only [cond_true, Rc, Option.bind_some]
   by_cases c : BI p e (k : Int) x = some f
   .left
    refine ⟨_, ?_, rfl⟩
    rw [c, Nr c]
    simp
   right
   refine ⟨by omega, ((k + 1 : Nat) : Int), ?_, rfl, by omega, fun o ho => ?_⟩
   .have w := AT (show k < 1000000000 by omega)
    cases ht : BI p e (k : Int) x with
    | none => simp only [Option.isSome_none, cond_false, Option.bind_some, w]
    | some v =>
     have hne : (v == f) = false := beq_eq_false_iff_ne.2 (fun hv => c (by rw [ht, hv]))
     simp only [Option.isSome_some, Option.getD_some, cond_true, Option.bind_some, hne, cond_false, w]
   have := h3 o ho
   have hne : (k : Int) ≠ o := fun hk => c (by rw [hk]; exact Nr ho)
   omega
  left
  refine ⟨_, ?_, rfl⟩
  rw [decide_eq_false d]
  cases ht : BI p e f x with
  | none => rfl
  | some o =>
   have := h3 o ht
   have := M1 ht
   omega) ⟨rfl, by omega, fun o ho => (M1 ho).1⟩
 exact h1
end
end Go.E
/- The example that the laws of flanks AF at, reckoned by the kernel. No condition. -/
namespace Go.E
open Go Go.Proofs
set_option maxRecDepth 100000
end Go.E
/- The example that the laws of proofs AF at, reckoned by the kernel. No condition. -/
namespace Go.E
open Go Go.Proofs
set_option maxRecDepth 100000
end Go.E
/- Plain Lean: the flank of a road: how its search begins; a road without side ports (law FlankNone). No condition. -/
namespace Go.E
open Go
theorem Ie (l : List Int) (hl : l.length < 1000000) (x : Int) : BX l x = some (decide (x ∈ l)) := by
 unfold BX Cc
 obtain ⟨t, h1, h2⟩ := J4 (l := l) (f := fun a => x == a) hl (step := B7 l x) (by simp [B7]) (fun i a ha => by
  have := Ba ha
  simp only [B7, BQ ha, cond_true, AY, ha, Option.bind_some, AT (show i < 1000000000 by omega)]
  cases hb : (x == a) <;> simp)
 rw [h1]
 simp only [Option.bind_some, Option.some.injEq]
 rcases h2 with ⟨rfl, h2⟩ | ⟨a, h0, h2, _⟩
 .have : x ∉ l := fun h => by have := List.find?_eq_none.1 h2 x h; simp at this
  simp [this]
 have hm := List.mem_of_find?_eq_some h2
 have he := List.find?_some h2
 simp only [beq_iff_eq] at he
 subst he
 simp [h0, hm]
theorem M2 (l : List AN) (hl : l.length < 1000000) (x : AN) : CY l x = some (decide (x ∈ l)) := by
 unfold CY HN
 obtain ⟨t, h1, h2⟩ := J4 (l := l) (f := fun a => x == a) hl (step := C0 l x) (by simp [C0]) (fun i a ha => by
  have := Ba ha
  simp only [C0, BQ ha, cond_true, AY, ha, Option.bind_some, AT (show i < 1000000000 by omega)]
  cases hb : (x == a) <;> simp)
 rw [h1]
 simp only [Option.bind_some, Option.some.injEq]
 rcases h2 with ⟨rfl, h2⟩ | ⟨a, h0, h2, _⟩
 .have : x ∉ l := fun h => by have := List.find?_eq_none.1 h2 x h; simp at this
  simp [this]
 have hm := List.mem_of_find?_eq_some h2
 have he := List.find?_some h2
 simp only [beq_iff_eq] at he
 subst he
 simp [h0, hm]
section
variable {p : AH} {n : CJ} {r : AQ}
theorem Ob (hv : CT p) (hn : Cr p n) (h1 : r.steps.length <= 12) (h2 : r.needs.length <= 1000) : Gr n r = AO (B1 n r r.steps r.needs p) (false, [], [], [], [], (D4 p (DY p r.steps)).reverse) := by
 unfold Gr
 have e1 : HL r.steps = some r.steps := Dg _ (by omega)
 have e2 : BG r.needs = some r.needs := Dg _ (by omega)
 have e3 : Iy n = some p := by unfold Iy; rw [hn.plan, UE p hv.few]; rfl
 simp only [e1, e2, e3, Option.bind_some, XM hn (⟨r.frm, r.to, r.fin, r.steps, r.needs, [], [], [], false⟩ : AQ) (show r.steps.length <= 1000 by omega)]
 have hp := Mi (p := p) r.steps
 generalize hL : DY p r.steps = L at hp
 have key : ∀ (k : Nat) (q : List AD), k <= L.length -> q = (D4 p (L.drop k)).reverse -> AO (Fs n r r.steps r.needs p L) ((k : Int) - 1, q) = AO (B1 n r r.steps r.needs p) (false, [], [], [], [], (D4 p L).reverse) := by
  intro k
  induction k with
  | zero =>
   intro q _ hq
   rw [List.drop_zero] at hq
   subst hq
   cases hr : AO (B1 n r r.steps r.needs p) (false, [], [], [], [], (D4 p L).reverse) with
   | some b =>
    refine CV ?_
    have d : decide ((0 : Int) <= ((0 : Nat) : Int) - 1) = false := by decide
    simp only [Fs, d, cond_false, hr, Option.map_some]
   | none =>
    rw [Hm]
    have d : decide ((0 : Int) <= ((0 : Nat) : Int) - 1) = false := by decide
    simp only [Fs, d, cond_false, hr, Option.map_none]
  | succ k ih =>
   intro q hk hq
   obtain ⟨x, hx⟩ : ∃ x, L[k]? = some x := ⟨_, List.getElem?_eq_getElem (by omega)⟩
   have hql : q.length <= 24 := by rw [hq]; unfold D4; simp; omega
   have hd : L.drop k = x :: L.drop (k + 1) := by
    obtain ⟨h, e⟩ := List.getElem?_eq_some_iff.1 hx
    rw [List.drop_eq_getElem_cons h, e]
   rw [<- ih (q ++ [(Ap p x).getD ⟨0, 0⟩]) (by omega) (by rw [hd, hq]; unfold D4; simp)]
   refine CL ?_
   have d : decide ((0 : Int) <= (k : Int)) = true := decide_eq_true (by omega)
   have e : (((k + 1 : Nat) : Int) - 1) = (k : Int) := by omega
   have w : AX ((k : Int) - 1) = (k : Int) - 1 := by rw [CG] <;> omega
   simp only [Fs, d, cond_true, e, AY, hx, Option.bind_some, O6 hn, BK (show q.length + [(Ap p x).getD (⟨0, 0⟩ : AD)].length <= 4294967296 by simp; omega), w]
 have w : AX ((L.length : Int) - 1) = (L.length : Int) - 1 := by rw [CG] <;> omega
 rw [w]
 exact key L.length [] (Nat.le_refl _) (by simp [D4])
end
end Go.E
/- Plain Lean: the flank of a road: one round of its search; what holds behind it. No condition. -/
namespace Go.E
open Go
section
variable {p : AH} {n : CJ} {r : AQ}
def A8 (b : Bool) (z : List Int) (e : Int) : Bool × Bool × List Int := if e ∈ z then (true, b, z) else if 12 <= z.length then (false, true, z) else (true, b, z ++ [e])
def Dc (p : AH) (l : List AD) (x : AD) : List AD := match Ap p x with
 | some y => l ++ [y]
 | none => l
abbrev FS := Bool × List (AD × Bool) × List AN × List Int × List Int × List AD
def J6 (p : AH) (st : List Ar) (nd : List AN) (b : Bool) (vis : List (AD × Bool)) (g : List AN) (z h : List Int) (l : List AD) (x : AD) : FS :=
 if x.elem ∈ st.map (·.elem) \/ BZ vis x = true then (b, vis, g, z, h, l)
 else if 0 <= Az p x /\ p.hard = false then (b, Av x true vis, g, z, if Az p x ∈ h then h else h ++ [Az p x], l)
 else if Af p x.elem = 4 then (true, Av x true vis, g, z, h, l)
 else if Af p x.elem = 2 then
  if x.fin = 0 then ((A8 b z x.elem).2.1, Av x true vis, g, (A8 b z x.elem).2.2, h, if (A8 b z x.elem).1 then Dc p (Dc p l ⟨x.elem, 2⟩) ⟨x.elem, 1⟩ else l)
  else if ⟨x.elem, x.fin⟩ ∈ nd \/ ⟨x.elem, x.fin⟩ ∈ g then ((A8 b z x.elem).2.1, Av x true vis, g, (A8 b z x.elem).2.2, h, if (A8 b z x.elem).1 then Dc p l ⟨x.elem, 0⟩ else l)
  else (b, Av x true vis, if ⟨x.elem, AX (3 - x.fin)⟩ ∈ g then g else g ++ [⟨x.elem, AX (3 - x.fin)⟩], z, h, l)
 else match BI p x.elem x.fin 0 with
  | none => (b, Av x true vis, g, z, h, l)
  | some o => ((A8 b z x.elem).2.1, Av x true vis, g, (A8 b z x.elem).2.2, h, if (A8 b z x.elem).1 then Dc p l ⟨x.elem, o⟩ else l)
theorem XN (b : Bool) (z : List Int) (e : Int) (hz : z.length <= 1000) : ((BX z e).bind fun y => bif y then some (true, b, z) else bif decide (12 <= (z.length : Int)) then some (false, true, z) else (BJ z [e]).bind fun y' => some (true, b, y') : Option (Bool × Bool × List Int)) = some (A8 b z e) := by
 rw [Ie z (by omega)]
 unfold A8
 simp only [Option.bind_some]
 by_cases c : e ∈ z
 .rw [decide_eq_true c, if_pos c]; rfl
 rw [decide_eq_false c, if_neg c]
 by_cases d : 12 <= z.length
 .rw [if_pos d, decide_eq_true (show (12 : Int) <= (z.length : Int) by omega)]; rfl
 rw [if_neg d, decide_eq_false (show ¬ (12 : Int) <= (z.length : Int) by omega)]
 simp only [cond_false, BK (show z.length + [e].length <= 4294967296 by simp; omega), Option.bind_some]
theorem Ml (hn : Cr p n) (l : List AD) (x : AD) (hl : l.length <= 1000000) : ((Ci n x).bind fun y => bif y.2 then (BJ l [y.1]).bind fun y' => some y' else some l : Option (List AD)) = some (Dc p l x) := by
 rw [O6 hn]
 unfold Dc
 cases Ap p x with
 | none => rfl
 | some y => simp only [Option.bind_some, Option.isSome_some, Option.getD_some, cond_true, BK (show l.length + [y].length <= 4294967296 by simp; omega)]
theorem Ns (l : List AD) (x : AD) : (Dc p l x).length <= l.length + 1 := by unfold Dc; split <;> simp
theorem P8 (hn : Cr p n) (h1 : r.steps.length <= 12) (h2 : r.needs.length <= 1000) (b : Bool) (vis : List (AD × Bool)) (g : List AN) (z h : List Int) (l : List AD) (x : AD) (hg : g.length <= 1000) (hz : z.length <= 1000) (hh : h.length <= 1000) (hl : l.length <= 1000) :
  B1 n r r.steps r.needs p (b, vis, g, z, h, l ++ [x]) = some (.inl (J6 p r.steps r.needs b vis g z h l x)) := by
 have d : decide ((0 : Int) < (((l ++ [x]).length : Nat) : Int)) = true := by simp
 have w := YK l x (by omega)
 have i1 := ZD x (rfl : l.length = l.length)
 have s1 := ZE x (rfl : l.length = l.length)
 have own := ZF (⟨r.frm, r.to, r.fin, r.steps, r.needs, g, z, h, b⟩ : AQ) (show r.steps.length < 1000000 by omega) x.elem
 have tz := XN b z x.elem hz
 have vb : (AU vis x).getD false = BZ vis x := rfl
 unfold B1 J6
 simp only [d, cond_true, w, i1, s1, own, Option.bind_some, vb]
 by_cases c : x.elem ∈ r.steps.map (·.elem) \/ BZ vis x = true
 .rw [if_pos c]
  rcases c with c | c
  .rw [decide_eq_true c]; rfl
  rw [c]; cases decide (x.elem ∈ r.steps.map (·.elem)) <;> rfl
 rw [if_neg c]
 have c1 : x.elem ∉ r.steps.map (·.elem) := fun h => c (.inl h)
 have c2 : BZ vis x = false := by cases hs : BZ vis x with | false => rfl | true => exact absurd (.inr hs) c
 rw [decide_eq_false c1, c2]
 simp only [cond_false, Option.bind_some, V8 hn]
 by_cases k1 : 0 <= Az p x /\ p.hard = false
 .rw [if_pos k1, decide_eq_true k1.1, k1.2]
  simp only [cond_true, Bool.not_false, Option.bind_some, Ie h (show h.length < 1000000 by omega)]
  by_cases m : Az p x ∈ h
  .rw [decide_eq_true m, if_pos m]; rfl
  rw [decide_eq_false m, if_neg m]
  simp only [Bool.not_false, cond_true, BK (show h.length + [Az p x].length <= 4294967296 by simp; omega), Option.bind_some]
 rw [if_neg k1]
 have eb : (bif decide (0 <= Az p x) then some (!p.hard) else some false : Option Bool) = some false := by
  by_cases a : 0 <= Az p x
  .rw [decide_eq_true a]
   cases hp : p.hard with
   | true => rfl
   | false => exact absurd ⟨a, hp⟩ k1
  rw [decide_eq_false a]; rfl
 simp only [eb, Option.bind_some, cond_false, O5 hn]
 by_cases k4 : Af p x.elem = 4
 .rw [if_pos k4, k4]; rfl
 rw [if_neg k4]
 have b4 : (Af p x.elem == 4) = false := beq_eq_false_iff_ne.2 k4
 simp only [b4, cond_false]
 by_cases k2 : Af p x.elem = 2
 .rw [if_pos k2, k2]
  simp only [beq_self_eq_true, cond_true]
  by_cases f0 : x.fin = 0
  .rw [if_pos f0]
   have bf : (x.fin == 0) = true := by simp [f0]
   simp only [bf, cond_true, tz, Option.bind_some]
   have q1 := Ns (p := p) l ⟨x.elem, 2⟩
   cases ht : (A8 b z x.elem).1 with
   | true => simp only [cond_true, Ml hn l ⟨x.elem, 2⟩ (by omega), Option.bind_some, Ml hn (Dc p l ⟨x.elem, 2⟩) ⟨x.elem, 1⟩ (by omega), if_true]
   | false => simp only [cond_false, Option.bind_some, Bool.false_eq_true, if_false]
  rw [if_neg f0]
  have bf : (x.fin == 0) = false := beq_eq_false_iff_ne.2 f0
  simp only [bf, cond_false, M2 r.needs (show r.needs.length < 1000000 by omega), M2 g (show g.length < 1000000 by omega), Option.bind_some]
  have en : (bif decide ((⟨x.elem, x.fin⟩ : AN) ∈ r.needs) then some true else some (decide ((⟨x.elem, x.fin⟩ : AN) ∈ g)) : Option Bool) = some (decide ((⟨x.elem, x.fin⟩ : AN) ∈ r.needs \/ (⟨x.elem, x.fin⟩ : AN) ∈ g)) := by
   by_cases a : (⟨x.elem, x.fin⟩ : AN) ∈ r.needs
   .simp [a]
   simp [a]
  simp only [en, Option.bind_some]
  by_cases a : (⟨x.elem, x.fin⟩ : AN) ∈ r.needs \/ (⟨x.elem, x.fin⟩ : AN) ∈ g
  .rw [if_pos a, decide_eq_true a]
   simp only [cond_true, tz, Option.bind_some]
   cases ht : (A8 b z x.elem).1 with
   | true => simp only [cond_true, Ml hn l ⟨x.elem, 0⟩ (by omega), Option.bind_some, if_true]
   | false => simp only [cond_false, Option.bind_some, Bool.false_eq_true, if_false]
  rw [if_neg a, decide_eq_false a]
  simp only [cond_false]
  by_cases m : (⟨x.elem, AX (3 - x.fin)⟩ : AN) ∈ g
  .rw [decide_eq_true m, if_pos m]; rfl
  rw [decide_eq_false m, if_neg m]
  simp only [Bool.not_false, cond_true, BK (show g.length + [(⟨x.elem, AX (3 - x.fin)⟩ : AN)].length <= 4294967296 by simp; omega), Option.bind_some]
 rw [if_neg k2]
 have b2 : (Af p x.elem == 2) = false := beq_eq_false_iff_ne.2 k2
 simp only [b2, cond_false, Ls, Ti hn, Option.bind_some]
 cases ht : BI p x.elem x.fin 0 with
 | none => rfl
 | some o =>
  simp only [Option.isSome_some, cond_true, Option.getD_some, tz, Option.bind_some]
  cases htz : (A8 b z x.elem).1 with
  | true => simp only [cond_true, Ml hn l ⟨x.elem, o⟩ (by omega), Option.bind_some, if_true]
  | false => simp only [cond_false, Bool.false_eq_true, if_false]
end
end Go.E
/- Plain Lean: the flank of a road: what holds of zone, guards and holds; the search ends (laws FlankAgain, FlankApart). No condition. -/
namespace Go.E
open Go
section
variable {p : AH} {n : CJ} {r : AQ}
structure UJ (p : AH) (st : List Ar) (z : List Int) : Prop where
 len : z.length <= 12
 nd : z.Nodup
 own : ∀ e ∈ z, e ∉ st.map (·.elem) /\ Af p e ≠ 4
 rng : ∀ e ∈ z, Af p e ≠ 0
structure Xr (p : AH) (st : List Ar) (g : List AN) : Prop where
 ok : ∀ m ∈ g, m.elem ∉ st.map (·.elem) /\ Af p m.elem = 2 /\ (m.pos = 1 \/ m.pos = 2)
 nd : g.Pairwise (fun a b => a.elem ≠ b.elem)
theorem XO {st : List Ar} {b : Bool} {z : List Int} {e : Int} (h : UJ p st z) (h1 : e ∉ st.map (·.elem)) (h2 : Af p e ≠ 4) (h3 : Af p e ≠ 0) : UJ p st (A8 b z e).2.2 := by
 unfold A8
 split
 .exact h
 rename_i hm
 split
 .exact h
 rename_i hl
 refine ⟨by simp; omega, ?_, fun a ha => ?_, fun a ha => ?_⟩
 .simp only
  rw [List.nodup_append]
  exact ⟨h.nd, by simp, fun a ha c hc => by simp at hc; subst hc; intro e; subst e; exact hm ha⟩
 .rcases List.mem_append.1 ha with ha | ha
  .exact h.own a ha
  simp at ha; subst ha; exact ⟨h1, h2⟩
 rcases List.mem_append.1 ha with ha | ha
 .exact h.rng a ha
 simp at ha; subst ha; exact h3
theorem H6 {x y : AD} (h : Ap p x = some y) : y ∈ CD p := Nn h
theorem K4 {l : List AD} {x y : AD} (h : y ∈ Dc p l x) : y ∈ l \/ y ∈ CD p := by
 unfold Dc at h
 cases hx : Ap p x with
 | none => rw [hx] at h; exact .inl h
 | some z =>
  rw [hx] at h
  rcases List.mem_append.1 h with h | h
  .exact .inl h
  simp at h; subst h; exact .inr (H6 hx)
structure FI (p : AH) (st : List Ar) (M k : Nat) (vis : List (AD × Bool)) (g : List AN) (z h : List Int) (l : List AD) : Prop where
 zok : UJ p st z
 gok : Xr p st g
 hold : p.hard = true -> h = []
 port : ∀ x ∈ l, x ∈ CD p
 lg : g.length <= k
 lh : h.length <= k
 meas : k + l.length + 3 * Gg p vis <= M
theorem UK (hv : CT p) {st : List Ar} {nd : List AN} {M k : Nat} {b : Bool} {vis : List (AD × Bool)} {g : List AN} {z h : List Int} {l : List AD} {x : AD} (hi : FI p st M k vis g z h (l ++ [x])) {s : FS} (hs : s = J6 p st nd b vis g z h l x) :
  FI p st M (k + 1) s.2.1 s.2.2.1 s.2.2.2.1 s.2.2.2.2.1 s.2.2.2.2.2 := by
 have hm := hi.meas
 simp only [List.length_append, List.length_cons, List.length_nil] at hm
 have hx : x ∈ CD p := hi.port x (by simp)
 have hl : ∀ y ∈ l, y ∈ CD p := fun y hy => hi.port y (by simp [hy])
 have hlg := hi.lg
 have hlh := hi.lh
 have hul := WF (p := p) (vis := vis) x
 have hhas : Cu p x = true := by
  obtain ⟨i, hi⟩ := List.mem_iff_getElem?.1 hx
  exact hv.join.has i x hi
 unfold J6 at hs
 by_cases c : x.elem ∈ st.map (·.elem) \/ BZ vis x = true
 .rw [if_pos c] at hs
  subst hs
  exact ⟨hi.zok, hi.gok, hi.hold, hl, by dsimp only; omega, by dsimp only; omega, by dsimp only; omega⟩
 rw [if_neg c] at hs
 have c1 : x.elem ∉ st.map (·.elem) := fun h => c (.inl h)
 have c2 : BZ vis x = false := by cases hs : BZ vis x with | false => rfl | true => exact absurd (.inr hs) c
 have hlt := TB hx c2
 by_cases k1 : 0 <= Az p x /\ p.hard = false
 .rw [if_pos k1] at hs
  subst hs
  refine ⟨hi.zok, hi.gok, fun hh => (by rw [k1.2] at hh; cases hh), hl, by dsimp only; omega, ?_, by dsimp only; omega⟩
  dsimp only
  split
  .omega
  simp; omega
 rw [if_neg k1] at hs
 by_cases k4 : Af p x.elem = 4
 .rw [if_pos k4] at hs
  subst hs
  exact ⟨hi.zok, hi.gok, hi.hold, hl, by dsimp only; omega, by dsimp only; omega, by dsimp only; omega⟩
 rw [if_neg k4] at hs
 have k0 : Af p x.elem ≠ 0 := fun e => by
  obtain ⟨f1, f2, f3⟩ := Ec hhas
  rw [e] at f3
  simp [CH] at f3
  omega
 have hz := XO (b := b) hi.zok c1 k4 k0
 have p1 : ∀ y, (Dc p l y).length <= l.length + 1 := fun y => Ns l y
 by_cases k2 : Af p x.elem = 2
 .rw [if_pos k2] at hs
  by_cases f0 : x.fin = 0
  .rw [if_pos f0] at hs
   subst hs
   refine ⟨hz, hi.gok, hi.hold, fun y hy => ?_, by dsimp only; omega, by dsimp only; omega, ?_⟩
   .dsimp only at hy
    split at hy
    .rcases K4 hy with hy | hy
     .rcases K4 hy with hy | hy
      .exact hl y hy
      exact hy
     exact hy
    exact hl y hy
   dsimp only
   have q1 := p1 ⟨x.elem, 2⟩
   have q2 := Ns (p := p) (Dc p l ⟨x.elem, 2⟩) ⟨x.elem, 1⟩
   split <;> omega
  rw [if_neg f0] at hs
  by_cases a : (⟨x.elem, x.fin⟩ : AN) ∈ nd \/ (⟨x.elem, x.fin⟩ : AN) ∈ g
  .rw [if_pos a] at hs
   subst hs
   refine ⟨hz, hi.gok, hi.hold, fun y hy => ?_, by dsimp only; omega, by dsimp only; omega, ?_⟩
   .dsimp only at hy
    split at hy
    .rcases K4 hy with hy | hy
     .exact hl y hy
     exact hy
    exact hl y hy
   dsimp only
   have q1 := p1 ⟨x.elem, 0⟩
   split <;> omega
  rw [if_neg a] at hs
  subst hs
  obtain ⟨f1, f2, f3⟩ := Ec hhas
  rw [k2] at f3
  simp [CH] at f3
  have hw : AX (3 - x.fin) = 3 - x.fin := by rw [CG] <;> omega
  refine ⟨hi.zok, ?_, hi.hold, hl, ?_, by dsimp only; omega, by dsimp only; omega⟩
  .dsimp only
   split
   .exact hi.gok
   rename_i hng
   refine ⟨fun m hm => ?_, ?_⟩
   .rcases List.mem_append.1 hm with hm | hm
    .exact hi.gok.ok m hm
    simp at hm; subst hm; exact ⟨c1, k2, by rw [hw]; simp only; omega⟩
   rw [List.pairwise_append]
   refine ⟨hi.gok.nd, by simp, fun m hm q hq => ?_⟩
   simp at hq
   subst hq
   intro he
   simp only at he
   obtain ⟨_, _, hp⟩ := hi.gok.ok m hm
   have e1 : m = ⟨x.elem, m.pos⟩ := by cases m; simp only at he; subst he; rfl
   by_cases e : m.pos = x.fin
   .rw [e] at e1; rw [e1] at hm; exact a (.inr hm)
   have : m.pos = 3 - x.fin := by omega
   rw [this, <- hw] at e1; rw [e1] at hm; exact hng hm
  dsimp only
  split
  .omega
  simp; omega
 rw [if_neg k2] at hs
 cases ht : BI p x.elem x.fin 0 with
 | none =>
  rw [ht] at hs
  subst hs
  exact ⟨hi.zok, hi.gok, hi.hold, hl, by dsimp only; omega, by dsimp only; omega, by dsimp only; omega⟩
 | some o =>
  rw [ht] at hs
  subst hs
  refine ⟨hz, hi.gok, hi.hold, fun y hy => ?_, by dsimp only; omega, by dsimp only; omega, ?_⟩
  .dsimp only at hy
   split at hy
   .rcases K4 hy with hy | hy
    .exact hl y hy
    exact hy
   exact hl y hy
  dsimp only
  have q1 := p1 ⟨x.elem, o⟩
  split <;> omega
end
end Go.E
/- Plain Lean: zone, guards and holds of a road's flank (law FlankApart). No condition. -/
namespace Go.E
open Go
section
variable {p : AH} {n : CJ} {r : AQ}
end
end Go.E
/- Plain Lean: one call of the document's search for the flank, in a clean form. No condition. -/
namespace Go.E
open Go
theorem P9 (l : List AN) (hl : l.length < 1000000) (x : AN) : Df l x = some (decide (x ∈ l)) := by
 unfold Df
 obtain ⟨b, h1, h2⟩ := Bu (l := l) (step := DM l x) (Post := fun b => b = decide (x ∈ l)) (fun _ y => y ≠ x) (fun good => ⟨false, by simp [DM], by
   symm; rw [decide_eq_false_iff_not]; intro hm
   obtain ⟨i, hi⟩ := List.getElem?_of_mem hm
   exact good i x hi rfl⟩) (fun i a ha _ => by
   have := Ba ha
   by_cases e : a = x
   .exact .inl ⟨true, by simp only [DM, BQ ha, cond_true, AY, ha, Option.bind_some, e, beq_self_eq_true], by symm; rw [decide_eq_true_iff]; subst e; exact List.mem_of_getElem? ha⟩
   have : (a == x) = false := beq_eq_false_iff_ne.2 e
   exact .inr ⟨by simp only [DM, BQ ha, cond_true, AY, ha, Option.bind_some, this, cond_false, AT (show i < 1000000000 by omega)], e⟩)
 rw [h1, h2]
section
variable {p : AH} {n : CJ} {r : AQ}
def Ed (p : AH) (r : AQ) (g : List AN) (z h : List Int) (b : Bool) (met : List AD) : AZ := ⟨p, ⟨r.frm, r.to, r.fin, r.steps, r.needs, g, z, h, b⟩, met⟩
def QA (p : AH) (rc : AZ × AD -> Option AZ) (S : AZ) (y : AD) : Option AZ := match Ap p y with
 | some q => rc (S, q)
 | none => some S
theorem WH (b : Bool) (z : List Int) (e : Int) (hz : z.length <= 1000) : ((Cw z e).bind fun y => bif y then some (true, b, z) else bif decide (12 <= (z.length : Int)) then some (false, true, z) else (BJ z [e]).bind fun y' => some (true, b, y') : Option (Bool × Bool × List Int)) = some (A8 b z e) := by
 rw [Md z (by omega)]
 unfold A8
 simp only [Option.bind_some]
 by_cases c : e ∈ z
 .rw [decide_eq_true c, if_pos c]; rfl
 rw [decide_eq_false c, if_neg c]
 by_cases d : 12 <= z.length
 .rw [if_pos d, decide_eq_true (show (12 : Int) <= (z.length : Int) by omega)]; rfl
 rw [if_neg d, decide_eq_false (show ¬ (12 : Int) <= (z.length : Int) by omega)]
 simp only [cond_false, BK (show z.length + [e].length <= 4294967296 by simp; omega), Option.bind_some]
def Rv (p : AH) (r : AQ) (rc : AZ × AD -> Option AZ) (g : List AN) (z h : List Int) (b : Bool) (met : List AD) (x : AD) : Option AZ :=
 if x.elem ∈ r.steps.map (·.elem) \/ x ∈ met then some (Ed p r g z h b met)
 else if 0 <= Az p x /\ p.hard = false then some (Ed p r g z (if Az p x ∈ h then h else h ++ [Az p x]) b (met ++ [x]))
 else if Af p x.elem = 4 then some (Ed p r g z h true (met ++ [x]))
 else if Af p x.elem = 2 then
  if x.fin = 0 then
   if (A8 b z x.elem).1 then (QA p rc (Ed p r g (A8 b z x.elem).2.2 h (A8 b z x.elem).2.1 (met ++ [x])) ⟨x.elem, 1⟩).bind fun S => QA p rc S ⟨x.elem, 2⟩
   else some (Ed p r g (A8 b z x.elem).2.2 h (A8 b z x.elem).2.1 (met ++ [x]))
  else if ⟨x.elem, x.fin⟩ ∈ r.needs \/ ⟨x.elem, x.fin⟩ ∈ g then
   if (A8 b z x.elem).1 then QA p rc (Ed p r g (A8 b z x.elem).2.2 h (A8 b z x.elem).2.1 (met ++ [x])) ⟨x.elem, 0⟩
   else some (Ed p r g (A8 b z x.elem).2.2 h (A8 b z x.elem).2.1 (met ++ [x]))
  else some (Ed p r (if ⟨x.elem, AX (3 - x.fin)⟩ ∈ g then g else g ++ [⟨x.elem, AX (3 - x.fin)⟩]) z h b (met ++ [x]))
 else if (A8 b z x.elem).1 then QA p rc (Ed p r g (A8 b z x.elem).2.2 h (A8 b z x.elem).2.1 (met ++ [x])) ⟨x.elem, (BI p x.elem x.fin 0).getD 0⟩
 else some (Ed p r g (A8 b z x.elem).2.2 h (A8 b z x.elem).2.1 (met ++ [x]))
theorem WI (hv : CT p) (h1 : r.steps.length <= 12) (h2 : r.needs.length <= 1000) (rc : AZ × AD -> Option AZ) (g : List AN) (z h : List Int) (b : Bool) (met : List AD) (x : AD) (hrc : ¬ (x.elem ∈ r.steps.map (·.elem) \/ x ∈ met) -> ∀ q S', Ap p ⟨x.elem, 1⟩ = some q -> rc (Ed p r g (A8 b z x.elem).2.2 h (A8 b z x.elem).2.1 (met ++ [x]), q) = some S' -> S'.p = p) (hg : g.length <= 1000) (hz : z.length <= 1000) (hh : h.length <= 1000) (hm : met.length <= 1000) :
  CK rc (Ed p r g z h b met) x = Rv p r rc g z h b met x := by
 have hj := hv.nj
 have hns := hv.ns
 have own := YN (⟨r.frm, r.to, r.fin, r.steps, r.needs, g, z, h, b⟩ : AQ) (show r.steps.length < 1000000 by omega) x.elem
 have tz := WH b z x.elem hz
 have hmet := BK (l := met) (m := [x]) (by simp; omega)
 unfold CK Rv Ed
 simp only [own, VH met (show met.length < 1000000 by omega), Option.bind_some]
 have e1 : (bif decide (x.elem ∈ r.steps.map (·.elem)) then some true else some (decide (x ∈ met)) : Option Bool) = some (decide (x.elem ∈ r.steps.map (·.elem) \/ x ∈ met)) := by
  by_cases a : x.elem ∈ r.steps.map (·.elem)
  .rw [decide_eq_true a]; simp [a]
  rw [decide_eq_false a]; simp [a]
 simp only [e1, Option.bind_some]
 by_cases c : x.elem ∈ r.steps.map (·.elem) \/ x ∈ met
 .rw [if_pos c, decide_eq_true c]; rfl
 rw [if_neg c, decide_eq_false c]
 simp only [cond_false, hmet, Option.bind_some, Hf p (show p.signals.length < 1000000 by omega)]
 by_cases k1 : 0 <= Az p x /\ p.hard = false
 .rw [if_pos k1, decide_eq_true k1.1, k1.2]
  simp only [cond_true, Bool.not_false, Option.bind_some, Md h (show h.length < 1000000 by omega)]
  by_cases m : Az p x ∈ h
  .rw [decide_eq_true m, if_pos m]; rfl
  rw [decide_eq_false m, if_neg m]
  simp only [Bool.not_false, cond_true, BK (show h.length + [Az p x].length <= 4294967296 by simp; omega), Option.bind_some]
 rw [if_neg k1]
 have eb : (bif decide (0 <= Az p x) then some (!p.hard) else some false : Option Bool) = some false := by
  by_cases a : 0 <= Az p x
  .rw [decide_eq_true a]
   cases hp : p.hard with
   | true => rfl
   | false => exact absurd ⟨a, hp⟩ k1
  rw [decide_eq_false a]; rfl
 simp only [eb, Option.bind_some, cond_false, Kc]
 by_cases k4 : Af p x.elem = 4
 .rw [if_pos k4, k4]; rfl
 rw [if_neg k4]
 have b4 : (Af p x.elem == 4) = false := beq_eq_false_iff_ne.2 k4
 simp only [b4, cond_false, tz, Option.bind_some, Ce p (show p.joins.length < 1000000 by omega), VI]
 by_cases k2 : Af p x.elem = 2
 .rw [if_pos k2, k2]
  simp only [beq_self_eq_true, cond_true]
  by_cases f0 : x.fin = 0
  .rw [if_pos f0]
   have bf : (x.fin == 0) = true := by simp [f0]
   simp only [bf, cond_true, tz, Option.bind_some]
   cases ht : (A8 b z x.elem).1 with
   | false => simp only [cond_false, Option.bind_some, Bool.false_eq_true, if_false]
   | true =>
    simp only [cond_true, if_true]
    unfold QA
    cases hy : Ap p ⟨x.elem, 1⟩ with
    | none =>
     simp only [Option.isSome_none, cond_false, Option.bind_some, Ce p (show p.joins.length < 1000000 by omega)]
     cases hy2 : Ap p ⟨x.elem, 2⟩ with
     | none => rfl
     | some q2 =>
      simp only [Option.isSome_some, cond_true, Option.getD_some]
      cases hr2 : rc (⟨p, ⟨r.frm, r.to, r.fin, r.steps, r.needs, g, (A8 b z x.elem).2.2, h, (A8 b z x.elem).2.1⟩, met ++ [x]⟩, q2) with
      | none => simp only [hr2, Option.bind_none]
      | some S => simp only [hr2, Option.bind_some]
    | some q =>
     simp only [Option.isSome_some, cond_true, Option.getD_some]
     cases hr : rc (⟨p, ⟨r.frm, r.to, r.fin, r.steps, r.needs, g, (A8 b z x.elem).2.2, h, (A8 b z x.elem).2.1⟩, met ++ [x]⟩, q) with
     | none => rfl
     | some S =>
      obtain ⟨Sp, Sr, Sm⟩ := S
      have hp := hrc c _ _ hy hr
      simp only at hp
      subst hp
      simp only [Option.bind_some, Ce Sp (show Sp.joins.length < 1000000 by omega)]
      cases hy2 : Ap Sp ⟨x.elem, 2⟩ with
      | none => rfl
      | some q2 =>
       simp only [Option.isSome_some, cond_true, Option.getD_some, Option.bind_some]
       cases hr2 : rc (⟨Sp, Sr, Sm⟩, q2) with
       | none => simp only [hr2, Option.bind_none]
       | some S => simp only [hr2, Option.bind_some]
  rw [if_neg f0]
  have bf : (x.fin == 0) = false := beq_eq_false_iff_ne.2 f0
  simp only [bf, cond_false, P9 r.needs (show r.needs.length < 1000000 by omega), P9 g (show g.length < 1000000 by omega), Option.bind_some]
  have en : (bif !decide ((⟨x.elem, x.fin⟩ : AN) ∈ r.needs) then some (!decide ((⟨x.elem, x.fin⟩ : AN) ∈ g)) else some false : Option Bool) = some (decide (¬ ((⟨x.elem, x.fin⟩ : AN) ∈ r.needs \/ (⟨x.elem, x.fin⟩ : AN) ∈ g))) := by
   by_cases a : (⟨x.elem, x.fin⟩ : AN) ∈ r.needs
   .simp [a]
   by_cases a2 : (⟨x.elem, x.fin⟩ : AN) ∈ g <;> simp [a, a2]
  simp only [en, Option.bind_some]
  by_cases a : (⟨x.elem, x.fin⟩ : AN) ∈ r.needs \/ (⟨x.elem, x.fin⟩ : AN) ∈ g
  .rw [if_pos a, decide_eq_false (show ¬ ¬ _ from fun hn => hn a)]
   simp only [cond_false, tz, Option.bind_some]
   cases ht : (A8 b z x.elem).1 with
   | false => simp only [cond_false, Option.bind_some, Bool.false_eq_true, if_false]
   | true =>
    simp only [cond_true, if_true]
    unfold QA
    cases hy : Ap p ⟨x.elem, 0⟩ with
    | none => rfl
    | some q =>
     simp only [Option.isSome_some, cond_true, Option.getD_some]
     cases hr : rc (⟨p, ⟨r.frm, r.to, r.fin, r.steps, r.needs, g, (A8 b z x.elem).2.2, h, (A8 b z x.elem).2.1⟩, met ++ [x]⟩, q) with
     | none => rfl
     | some S => rfl
  rw [if_neg a, decide_eq_true a]
  simp only [cond_true]
  by_cases m : (⟨x.elem, AX (3 - x.fin)⟩ : AN) ∈ g
  .rw [decide_eq_true m, if_pos m]; rfl
  rw [decide_eq_false m, if_neg m]
  simp only [Bool.not_false, cond_true, BK (show g.length + [(⟨x.elem, AX (3 - x.fin)⟩ : AN)].length <= 4294967296 by simp; omega), Option.bind_some]
 rw [if_neg k2]
 have b2 : (Af p x.elem == 2) = false := beq_eq_false_iff_ne.2 k2
 simp only [b2, cond_false]
 cases ht : (A8 b z x.elem).1 with
 | false => simp only [cond_false, Bool.false_eq_true, if_false]
 | true =>
  simp only [cond_true, if_true]
  unfold QA
  cases hy : Ap p ⟨x.elem, (BI p x.elem x.fin 0).getD 0⟩ with
  | none => rfl
  | some q =>
   simp only [Option.isSome_some, cond_true, Option.getD_some]
   cases hr : rc (⟨p, ⟨r.frm, r.to, r.fin, r.steps, r.needs, g, (A8 b z x.elem).2.2, h, (A8 b z x.elem).2.1⟩, met ++ [x]⟩, q) with
   | none => rfl
   | some S => rfl
end
end Go.E
/- Plain Lean: the document's search for the flank and the program's loop: one call is as good as one port on the stack. No condition. -/
namespace Go.E
open Go
section
variable {p : AH} {n : CJ} {r : AQ}
noncomputable def Mm (m : Nat) : AZ × AD -> Option AZ := Ng (fun (rc : (AZ × AD) -> Option AZ) (a : (AZ × AD)) => CK rc a.1 a.2) m
structure CI (p : AH) (vis : List (AD × Bool)) (g : List AN) (z h : List Int) (met : List AD) : Prop where
 mt : ∀ y, y ∈ met ↔ BZ vis y = true
 lz : z.length <= 12
 lg : g.length + Gg p vis <= 500
 lh : h.length + Gg p vis <= 500
 lm : met.length + Gg p vis <= 500
theorem RM {b : Bool} {z : List Int} {e : Int} (h : z.length <= 12) : (A8 b z e).2.2.length <= 12 := by
 unfold A8
 split
 .exact h
 split
 .exact h
 simp; omega
theorem CI.mark {vis : List (AD × Bool)} {g g' : List AN} {z z' h h' : List Int} {met : List AD} {x : AD} (hi : CI p vis g z h met) (hx : x ∈ CD p) (hv : BZ vis x = false) (hz : z'.length <= 12) (hg : g'.length <= g.length + 1) (hh : h'.length <= h.length + 1) : CI p (Av x true vis) g' z' h' (met ++ [x]) := by
 have hlt := TB hx hv
 have h1 := hi.lg; have h2 := hi.lh; have h3 := hi.lm
 refine ⟨fun y => ?_, hz, by omega, by omega, by simp; omega⟩
 rw [List.mem_append, hi.mt, FZ]
 simp only [List.mem_singleton]
 exact Or.comm
def XP (p : AH) (n : CJ) (r : AQ) (m : Nat) (b : Bool) (vis : List (AD × Bool)) (g : List AN) (z h : List Int) (met : List AD) (x : AD) : Prop :=
 ∃ b' vis' g' z' h' met', Mm m (Ed p r g z h b met, x) = some (Ed p r g' z' h' b' met') /\ CI p vis' g' z' h' met' /\ Gg p vis' <= Gg p vis /\
  ∀ l k, FI p r.steps 700 k vis g z h (l ++ [x]) -> ∃ k', AO (B1 n r r.steps r.needs p) (b, vis, g, z, h, l ++ [x]) = AO (B1 n r r.steps r.needs p) (b', vis', g', z', h', l) /\ FI p r.steps 700 k' vis' g' z' h' l
theorem K5 {m : Nat} (ih : ∀ b vis g z h met x, Gg p vis < m -> x ∈ CD p -> CI p vis g z h met -> XP p n r m b vis g z h met x) {b : Bool} {vis : List (AD × Bool)} {g : List AN} {z h : List Int} {met : List AD} (y : AD) (hu : Gg p vis < m) (hi : CI p vis g z h met) :
  ∃ b' vis' g' z' h' met', QA p (Mm m) (Ed p r g z h b met) y = some (Ed p r g' z' h' b' met') /\ CI p vis' g' z' h' met' /\ Gg p vis' <= Gg p vis /\
   ∀ l k, FI p r.steps 700 k vis g z h (Dc p l y) -> ∃ k', AO (B1 n r r.steps r.needs p) (b, vis, g, z, h, Dc p l y) = AO (B1 n r r.steps r.needs p) (b', vis', g', z', h', l) /\ FI p r.steps 700 k' vis' g' z' h' l := by
 unfold QA Dc
 cases hy : Ap p y with
 | none => exact ⟨b, vis, g, z, h, met, rfl, hi, Nat.le_refl _, fun l k hf => ⟨k, rfl, hf⟩⟩
 | some q => exact ih b vis g z h met q hu (H6 hy) hi
theorem TC {x : AD} (h : Cu p x = true) (k2 : Af p x.elem ≠ 2) (k4 : Af p x.elem ≠ 4) : ∃ o, BI p x.elem x.fin 0 = some o := by
 obtain ⟨f1, f2, f3⟩ := Ec h
 have h' : Cu p ⟨x.elem, x.fin⟩ = true := h
 unfold BI CC
 rw [h']
 simp only [if_true]
 by_cases k1 : Af p x.elem = 1
 .rw [if_pos k1]; exact ⟨_, by simp [CX]; rfl⟩
 by_cases k3 : Af p x.elem = 3
 .rw [if_neg k1, if_pos k3]; exact ⟨_, by simp [CX]; rfl⟩
 have : CH (Af p x.elem) = 0 := by unfold CH; rw [if_neg k1, if_neg k2, if_neg k3, if_neg k4]
 omega
theorem YP (hv : CT p) (hn : Cr p n) (h1 : r.steps.length <= 12) (h2 : r.needs.length <= 1000) : ∀ (m : Nat) (b : Bool) (vis : List (AD × Bool)) (g : List AN) (z h : List Int) (met : List AD) (x : AD), Gg p vis < m -> x ∈ CD p -> CI p vis g z h met -> XP p n r m b vis g z h met x := by
 intro m
 induction m with
 | zero => intro b vis g z h met x hu; omega
 | succ m ih =>
  intro b vis g z h met x hu hx hi
  have lz := hi.lz; have lg := hi.lg; have lh := hi.lh; have lm := hi.lm
  have hhas : Cu p x = true := by
   obtain ⟨i, hi⟩ := List.mem_iff_getElem?.1 hx
   exact hv.join.has i x hi
  have hdec : ¬ (x.elem ∈ r.steps.map (·.elem) \/ x ∈ met) -> BZ vis x = false /\ Gg p (Av x true vis) < m := fun c => by
   have : BZ vis x = false := by
    cases hs : BZ vis x with
    | false => rfl
    | true => exact absurd (.inr ((hi.mt x).2 hs)) c
   have := TB hx this
   exact ⟨by assumption, by omega⟩
  have hcs : Mm (m + 1) (Ed p r g z h b met, x) = Rv p r (Mm m) g z h b met x := by
   show CK (Mm m) (Ed p r g z h b met) x = _
   refine WI hv h1 h2 (Mm m) g z h b met x (fun c q S' hq hS => ?_) (by omega) (by omega) (by omega) (by omega)
   obtain ⟨hs, hu'⟩ := hdec c
   obtain ⟨b', vis', g', z', h', met', e, _⟩ := ih (A8 b z x.elem).2.1 (Av x true vis) g (A8 b z x.elem).2.2 h (met ++ [x]) q hu' (H6 hq) (hi.mark hx hs (RM lz) (by omega) (by omega))
   rw [e] at hS; cases hS; rfl
  unfold XP
  rw [hcs]
  have round : ∀ l k, FI p r.steps 700 k vis g z h (l ++ [x]) -> ∀ s, s = J6 p r.steps r.needs b vis g z h l x -> AO (B1 n r r.steps r.needs p) (b, vis, g, z, h, l ++ [x]) = AO (B1 n r r.steps r.needs p) s /\ FI p r.steps 700 (k + 1) s.2.1 s.2.2.1 s.2.2.2.1 s.2.2.2.2.1 s.2.2.2.2.2 := fun l k hf s hs => by
   have hm := hf.meas
   simp only [List.length_append, List.length_cons, List.length_nil] at hm
   refine ⟨CL ?_, UK hv hf hs⟩
   rw [hs]
   exact P8 hn h1 h2 b vis g z h l x (by omega) (by omega) (by omega) (by omega)
  unfold Rv
  by_cases c : x.elem ∈ r.steps.map (·.elem) \/ x ∈ met
  .rw [if_pos c]
   refine ⟨b, vis, g, z, h, met, rfl, hi, Nat.le_refl _, fun l k hf => ⟨k + 1, ?_⟩⟩
   have := round l k hf _ rfl
   unfold J6 at this
   rw [if_pos (by rw [<- hi.mt]; exact c)] at this
   exact this
  rw [if_neg c]
  obtain ⟨hs, hu'⟩ := hdec c
  have hul := WF (p := p) (vis := vis) x
  have c' : ¬ (x.elem ∈ r.steps.map (·.elem) \/ BZ vis x = true) := by rw [<- hi.mt]; exact c
  unfold J6 at round
  simp only [if_neg c'] at round
  by_cases k1 : 0 <= Az p x /\ p.hard = false
  .rw [if_pos k1]
   simp only [if_pos k1] at round
   refine ⟨b, Av x true vis, g, z, _, met ++ [x], rfl, hi.mark hx hs lz (by omega) (by split <;> simp), hul, fun l k hf => ⟨k + 1, round l k hf _ rfl⟩⟩
  rw [if_neg k1]
  simp only [if_neg k1] at round
  by_cases k4 : Af p x.elem = 4
  .rw [if_pos k4]
   simp only [if_pos k4] at round
   exact ⟨true, Av x true vis, g, z, h, met ++ [x], rfl, hi.mark hx hs lz (by omega) (by omega), hul, fun l k hf => ⟨k + 1, round l k hf _ rfl⟩⟩
  rw [if_neg k4]
  simp only [if_neg k4] at round
  have hc2 := hi.mark (g' := g) (z' := (A8 b z x.elem).2.2) (h' := h) hx hs (RM lz) (by omega) (by omega)
  have stay : ¬ (A8 b z x.elem).1 = true -> ∀ (P : Prop), True := fun _ _ => trivial
  by_cases k2 : Af p x.elem = 2
  .rw [if_pos k2]
   simp only [if_pos k2] at round
   by_cases f0 : x.fin = 0
   .rw [if_pos f0]
    simp only [if_pos f0] at round
    by_cases t1 : (A8 b z x.elem).1 = true
    .rw [if_pos t1]
     simp only [if_pos t1] at round
     obtain ⟨b1, v1, g1, z1, q1, m1, e1, i1, u1, s1⟩ := K5 ih (b := (A8 b z x.elem).2.1) ⟨x.elem, 1⟩ hu' hc2
     obtain ⟨b2, v2, g2, z2, q2, m2, e2, i2, u2, s2⟩ := K5 ih (b := b1) (vis := v1) ⟨x.elem, 2⟩ (by omega) i1
     refine ⟨b2, v2, g2, z2, q2, m2, by rw [e1]; exact e2, i2, by omega, fun l k hf => ?_⟩
     obtain ⟨r1, r2⟩ := round l k hf _ rfl
     obtain ⟨k3, r3, r4⟩ := s1 _ _ r2
     obtain ⟨k5, r5, r6⟩ := s2 _ _ r4
     exact ⟨k5, r1.trans (r3.trans r5), r6⟩
    rw [if_neg t1]
    simp only [if_neg t1] at round
    exact ⟨_, Av x true vis, g, _, h, met ++ [x], rfl, hc2, hul, fun l k hf => ⟨k + 1, round l k hf _ rfl⟩⟩
   rw [if_neg f0]
   simp only [if_neg f0] at round
   by_cases a : (⟨x.elem, x.fin⟩ : AN) ∈ r.needs \/ (⟨x.elem, x.fin⟩ : AN) ∈ g
   .rw [if_pos a]
    simp only [if_pos a] at round
    by_cases t1 : (A8 b z x.elem).1 = true
    .rw [if_pos t1]
     simp only [if_pos t1] at round
     obtain ⟨b1, v1, g1, z1, q1, m1, e1, i1, u1, s1⟩ := K5 ih (b := (A8 b z x.elem).2.1) ⟨x.elem, 0⟩ hu' hc2
     refine ⟨b1, v1, g1, z1, q1, m1, e1, i1, by omega, fun l k hf => ?_⟩
     obtain ⟨r1, r2⟩ := round l k hf _ rfl
     obtain ⟨k3, r3, r4⟩ := s1 _ _ r2
     exact ⟨k3, r1.trans r3, r4⟩
    rw [if_neg t1]
    simp only [if_neg t1] at round
    exact ⟨_, Av x true vis, g, _, h, met ++ [x], rfl, hc2, hul, fun l k hf => ⟨k + 1, round l k hf _ rfl⟩⟩
   rw [if_neg a]
   simp only [if_neg a] at round
   exact ⟨b, Av x true vis, _, z, h, met ++ [x], rfl, hi.mark hx hs lz (by split <;> simp) (by omega), hul, fun l k hf => ⟨k + 1, round l k hf _ rfl⟩⟩
  rw [if_neg k2]
  simp only [if_neg k2] at round
  obtain ⟨o, ho⟩ : ∃ o, BI p x.elem x.fin 0 = some o := TC hhas k2 k4
  simp only [ho] at round
  rw [ho, Option.getD_some]
  by_cases t1 : (A8 b z x.elem).1 = true
  .rw [if_pos t1]
   simp only [if_pos t1] at round
   obtain ⟨b1, v1, g1, z1, q1, m1, e1, i1, u1, s1⟩ := K5 ih (b := (A8 b z x.elem).2.1) ⟨x.elem, o⟩ hu' hc2
   refine ⟨b1, v1, g1, z1, q1, m1, e1, i1, by omega, fun l k hf => ?_⟩
   obtain ⟨r1, r2⟩ := round l k hf _ rfl
   obtain ⟨k3, r3, r4⟩ := s1 _ _ r2
   exact ⟨k3, r1.trans r3, r4⟩
  rw [if_neg t1]
  simp only [if_neg t1] at round
  exact ⟨_, Av x true vis, g, _, h, met ++ [x], rfl, hc2, hul, fun l k hf => ⟨k + 1, round l k hf _ rfl⟩⟩
end
end Go.E
/- Plain Lean: the flank of a road: the document's answer and the program's are one (law FlankOfs). No condition. -/
namespace Go.E
open Go
section
variable {p : AH} {n : CJ} {r : AQ}
theorem YQ (hv : CT p) (g : List AN) (z h : List Int) (b : Bool) (met : List AD) {x y : AD} (hy : Ap p x = some y) {g' : List AN} {z' h' : List Int} {b' : Bool} {met' : List AD} (hc : Mm 1000 (Ed p r g z h b met, y) = some (Ed p r g' z' h' b' met')) :
  IU (Ed p r g z h b met) x.elem x.fin = some (Ed p r g' z' h' b' met') := by
 have hj := hv.nj
 show Cm (Ng (fun (rc : (AZ × Int × Int) -> Option AZ) (a : (AZ × Int × Int)) => Cm rc a.1 a.2.1 a.2.2) 999) (Ed p r g z h b met) x.elem x.fin = _
 have hc' : G2 (Ed p r g z h b met) y = some (Ed p r g' z' h' b' met') := hc
 unfold Cm Ed at *
 simp only [Ce p (show p.joins.length < 1000000 by omega), hy, Option.bind_some, Option.isSome_some, cond_true, Option.getD_some, hc']
def ZG (p : AH) (r : AQ) (i : Int) (g : List AN) (z h : List Int) (b : Bool) (met : List AD) : Int × (List Bl) × (List Bk) × (List A6) × (List B9) × Int × Int × Int × Int × Bool × Int × Int × Int × (List Ar) × (List AN) × Bool × (List AN) × (List Int) × (List Int) × (List AD) :=
 (i, p.elems, p.joins, p.signals, p.lines, p.top, p.brake, p.margin, p.throw, p.hard, r.frm, r.to, r.fin, r.steps, r.needs, b, g, z, h, met)
theorem VK (hv : CT p) (hn : Cr p n) (h1 : r.steps.length <= 12) (h2 : r.needs.length <= 1000) (L : List AD) (hL : L.length <= 24) (hLj : ∀ x ∈ L, ∃ y, Ap p x = some y) : ∀ (rest : List AD) (i : Nat) (b : Bool) (vis : List (AD × Bool)) (g : List AN) (z h : List Int) (met : List AD) (k : Nat), L.drop i = rest -> i <= L.length -> CI p vis g z h met -> FI p r.steps 700 k vis g z h (D4 p rest).reverse ->
  ∃ R, AO (Ex L) (ZG p r (i : Int) g z h b met) = some R /\ AO (B1 n r r.steps r.needs p) (b, vis, g, z, h, (D4 p rest).reverse) = some R := by
 have hj := hv.nj
 intro rest
 induction rest with
 | nil =>
  intro i b vis g z h met k hd hi hc hf
  have : i = L.length := by have := congrArg List.length hd; simp at this; omega
  subst this
  refine ⟨⟨r.frm, r.to, r.fin, r.steps, r.needs, g, z, h, b⟩, CV ?_, CV rfl⟩
  simp [Ex, ZG]
 | cons x rest ih =>
  intro i b vis g z h met k hd hi hc hf
  have hlt : i < L.length := by have := congrArg List.length hd; simp at this; omega
  have hx : L[i]? = some x := by
   have : (L.drop i)[0]? = some x := by rw [hd]; rfl
   simpa using this
  have hr : L.drop (i + 1) = rest := by
   have : (L.drop i).drop 1 = rest := by rw [hd]; rfl
   rwa [List.drop_drop] at this
  obtain ⟨y, hy⟩ := hLj x (List.mem_of_getElem? hx)
  have hq : (D4 p (x :: rest)).reverse = (D4 p rest).reverse ++ [y] := by unfold D4; simp [hy]
  have hu : Gg p vis < 1000 := by
   have h3 : Gg p vis <= (CD p).length := List.length_filter_le _ _
   have h4 : (CD p).length = 2 * p.joins.length := Gf _
   omega
  obtain ⟨b', vis', g', z', h', met', e1, i1, u1, s1⟩ := YP hv hn h1 h2 1000 b vis g z h met y hu (H6 hy) hc
  rw [hq] at hf ⊢
  obtain ⟨k', e2, f2⟩ := s1 _ _ hf
  obtain ⟨R, e3, e4⟩ := ih (i + 1) b' vis' g' z' h' met' k' hr (by omega) i1 f2
  refine ⟨R, ?_, by rw [e2, e4]⟩
  rw [<- e3]
  refine CL ?_
  have hon := YQ (r := r) hv g z h b met hy e1
  unfold Ed at hon
  simp only [Ex, ZG, BQ hx, cond_true, AY, hx, Option.bind_some]
  rw [hon]
  simp only [Option.bind_some, AT (show i < 1000000000 by omega)]
  simp only [Int.ofNat_lt, hlt, decide_true, cond_true]
theorem XQ (hv : CT p) (hn : Cr p n) (h1 : r.steps.length <= 12) (h2 : r.needs.length <= 1000) : ∃ R, F0 p r = some R /\ Gr n r = some R := by
 have hj := hv.nj
 have hp := Mi (p := p) r.steps
 rw [Ob hv hn h1 h2]
 unfold F0
 simp only [BK (show ([] : List Ar).length + r.steps.length <= 4294967296 by simp; omega), BK (show ([] : List AN).length + r.needs.length <= 4294967296 by simp; omega), List.nil_append, Option.bind_some, WD hv r (show r.steps.length <= 1000 by omega)]
 have h3 : Gg p [] <= (CD p).length := List.length_filter_le _ _
 have h4 : (CD p).length = 2 * p.joins.length := Gf _
 refine VK hv hn h1 h2 (DY p r.steps) (by omega) (fun x hx => Ke hx) (DY p r.steps) 0 false [] [] [] [] [] 0 rfl (Nat.zero_le _) ⟨fun y => by simp [BZ, AU], by simp, by simp; omega, by simp; omega, by simp; omega⟩ ⟨⟨by simp, by simp, by simp, by simp⟩, ⟨by simp, by simp⟩, fun _ => rfl, fun y hy => ?_, by simp, by simp, ?_⟩
 .have := List.mem_reverse.1 hy
  obtain ⟨x, hx, rfl⟩ := List.mem_map.1 this
  obtain ⟨y, hy⟩ := Ke hx
  rw [hy]
  exact H6 hy
 simp only [D4, List.length_reverse, List.length_map]
 omega
end
end Go.E
/- Plain Lean: whether a road is ready, by the program and by the document (law FlankReady). No condition. -/
namespace Go.E
open Go
end Go.E
/- Plain Lean: a road that is ready is so no more when one thing is otherwise (law FlankOne). No condition. -/
namespace Go.E
open Go
section
variable {p : AH} {n : CJ} {r : AQ}
theorem O4 {n : Int} {k : Nat} (h0 : 0 <= n) (hk : 0 < k) : ∃ j : Nat, j < k /\ NR n (k : Int) = some (j : Int) := by
 obtain ⟨m, rfl⟩ := Int.eq_ofNat_of_zero_le h0
 refine ⟨m % k, Nat.mod_lt _ hk, ?_⟩
 unfold NR
 rw [if_neg (by omega)]
 rfl
end
end Go.E
/- Plain Lean: what a road's flank keeps: nobody comes in but from its zone (law FlankKeeps). No condition. -/
namespace Go.E
open Go
section
variable {p : AH} {n : CJ} {r : AQ}
def WJ (st : List Ar) (vis : List (AD × Bool)) (l : List AD) (y : AD) : Prop := y ∈ l \/ BZ vis y = true \/ y.elem ∈ st.map (·.elem)
structure TD (p : AH) (nd g : List AN) (z h : List Int) (at_ : AD -> Prop) (x : AD) : Prop where
 held : 0 <= Az p x /\ p.hard = false -> Az p x ∈ h
 gate : ¬ (0 <= Az p x /\ p.hard = false) -> Af p x.elem ≠ 4
 toe : ¬ (0 <= Az p x /\ p.hard = false) -> Af p x.elem = 2 -> x.fin = 0 -> x.elem ∈ z /\ ∀ o, (o = 1 \/ o = 2) -> ∀ y, Ap p ⟨x.elem, o⟩ = some y -> at_ y
 leg : ¬ (0 <= Az p x /\ p.hard = false) -> Af p x.elem = 2 -> x.fin ≠ 0 -> (x.elem ∈ z /\ ∀ y, Ap p ⟨x.elem, 0⟩ = some y -> at_ y) \/ (⟨x.elem, AX (3 - x.fin)⟩ : AN) ∈ g
 other : ¬ (0 <= Az p x /\ p.hard = false) -> Af p x.elem ≠ 2 -> ∀ o, BI p x.elem x.fin 0 = some o -> x.elem ∈ z /\ ∀ y, Ap p ⟨x.elem, o⟩ = some y -> at_ y
theorem TD.mono {nd g g' : List AN} {z z' h h' : List Int} {a a' : AD -> Prop} {x : AD} (hk : TD p nd g z h a x) (hg : ∀ m ∈ g, m ∈ g') (hz : ∀ m ∈ z, m ∈ z') (hh : ∀ m ∈ h, m ∈ h') (ha : ∀ y, a y -> a' y) : TD p nd g' z' h' a' x :=
 ⟨fun c => hh _ (hk.held c), hk.gate, fun c k f => ⟨hz _ (hk.toe c k f).1, fun o ho y hy => ha _ ((hk.toe c k f).2 o ho y hy)⟩,
  fun c k f => (hk.leg c k f).imp (fun q => ⟨hz _ q.1, fun y hy => ha _ (q.2 y hy)⟩) (hg _), fun c k o ho => ⟨hz _ (hk.other c k o ho).1, fun y hy => ha _ ((hk.other c k o ho).2 y hy)⟩⟩
structure KI (p : AH) (st : List Ar) (nd : List AN) (b : Bool) (vis : List (AD × Bool)) (g : List AN) (z h : List Int) (l : List AD) : Prop where
 seen : b = false -> ∀ x, BZ vis x = true -> TD p nd g z h (WJ st vis l) x
 init : ∀ x y, x ∈ DY p st -> Ap p x = some y -> WJ st vis l y
theorem KI.next {st : List Ar} {nd : List AN} {b b' : Bool} {vis vis' : List (AD × Bool)} {g g' : List AN} {z z' h h' : List Int} {l l' : List AD} {x : AD} (hi : KI p st nd b vis g z h (l ++ [x]))
  (hb : b' = false -> b = false) (hv : ∀ y, BZ vis y = true -> BZ vis' y = true) (hv2 : ∀ y, BZ vis' y = true -> BZ vis y = true \/ y = x) (hl : ∀ y ∈ l, y ∈ l') (hx : BZ vis' x = true \/ x.elem ∈ st.map (·.elem))
  (hg : ∀ m ∈ g, m ∈ g') (hz : ∀ m ∈ z, m ∈ z') (hh : ∀ m ∈ h, m ∈ h') (hr : b' = false -> BZ vis x = false -> BZ vis' x = true -> TD p nd g' z' h' (WJ st vis' l') x) : KI p st nd b' vis' g' z' h' l' := by
 have ha : ∀ y, WJ st vis (l ++ [x]) y -> WJ st vis' l' y := by
  rintro y (hy | hy | hy)
  .rcases List.mem_append.1 hy with hy | hy
   .exact .inl (hl y hy)
   simp at hy; subst hy; exact .inr hx
  .exact .inr (.inl (hv y hy))
  exact .inr (.inr hy)
 refine ⟨fun hb' y hy => ?_, fun y q hy hq => ha q (hi.init y q hy hq)⟩
 cases hs : BZ vis y with
 | true => exact (hi.seen (hb hb') y hs).mono hg hz hh ha
 | false =>
  rcases hv2 y hy with hy2 | rfl
  .rw [hs] at hy2; cases hy2
  exact hr hb' hs hy
theorem Nt {b : Bool} {z : List Int} {e m : Int} (hm : m ∈ z) : m ∈ (A8 b z e).2.2 := by
 unfold A8
 split
 .exact hm
 split
 .exact hm
 exact List.mem_append_left _ hm
theorem Fa {b : Bool} {z : List Int} {e : Int} (h : (A8 b z e).2.1 = false) : b = false /\ (A8 b z e).1 = true /\ e ∈ (A8 b z e).2.2 := by
 unfold A8 at *
 split
 .rename_i c; rw [if_pos c] at h; exact ⟨h, rfl, c⟩
 rename_i c
 rw [if_neg c] at h
 split
 .rename_i d; rw [if_pos d] at h; cases h
 rename_i d; rw [if_neg d] at h; exact ⟨h, rfl, by simp⟩
theorem Ji {l : List AD} {x y : AD} (h : y ∈ l) : y ∈ Dc p l x := by
 unfold Dc
 split
 .exact List.mem_append_left _ h
 exact h
theorem K6 {l : List AD} {x y : AD} (h : Ap p x = some y) : y ∈ Dc p l x := by
 unfold Dc
 rw [h]
 simp
theorem YR {st : List Ar} {nd : List AN} {b : Bool} {vis : List (AD × Bool)} {g : List AN} {z h : List Int} {l : List AD} {x : AD} (hi : KI p st nd b vis g z h (l ++ [x])) {s : FS} (hs : s = J6 p st nd b vis g z h l x) :
  KI p st nd s.1 s.2.1 s.2.2.1 s.2.2.2.1 s.2.2.2.2.1 s.2.2.2.2.2 := by
 have sx : BZ (Av x true vis) x = true := (FZ vis x x).2 (.inl rfl)
 have s1 : ∀ y, BZ vis y = true -> BZ (Av x true vis) y = true := fun y hy => (FZ vis x y).2 (.inr hy)
 have s2 : ∀ y, BZ (Av x true vis) y = true -> BZ vis y = true \/ y = x := fun y hy => ((FZ vis x y).1 hy).symm
 unfold J6 at hs
 by_cases c : x.elem ∈ st.map (·.elem) \/ BZ vis x = true
 .rw [if_pos c] at hs
  subst hs
  exact hi.next (fun h => h) (fun _ h => h) (fun _ h => .inl h) (fun _ h => h) c.symm (fun _ h => h) (fun _ h => h) (fun _ h => h) fun _ hn hy => (by rw [hn] at hy; cases hy)
 rw [if_neg c] at hs
 by_cases k1 : 0 <= Az p x /\ p.hard = false
 .rw [if_pos k1] at hs
  subst hs
  refine hi.next (fun h => h) s1 s2 (fun _ h => h) (.inl sx) (fun _ h => h) (fun _ h => h) (fun m hm => ?_) fun _ _ _ => ⟨fun _ => ?_, fun q => absurd k1 q, fun q => absurd k1 q, fun q => absurd k1 q, fun q => absurd k1 q⟩
  .dsimp only; split
   .exact hm
   exact List.mem_append_left _ hm
  dsimp only; split
  .assumption
  simp
 rw [if_neg k1] at hs
 by_cases k4 : Af p x.elem = 4
 .rw [if_pos k4] at hs
  subst hs
  exact hi.next (fun h => (by cases h)) s1 s2 (fun _ h => h) (.inl sx) (fun _ h => h) (fun _ h => h) (fun _ h => h) fun h => (by cases h)
 rw [if_neg k4] at hs
 by_cases k2 : Af p x.elem = 2
 .rw [if_pos k2] at hs
  by_cases f0 : x.fin = 0
  .rw [if_pos f0] at hs
   subst hs
   refine hi.next (fun hb => (Fa hb).1) s1 s2 (fun y hy => ?_) (.inl sx) (fun _ h => h) (fun _ h => Nt h) (fun _ h => h) fun hb _ _ => ⟨fun q => absurd q k1, fun _ => k4, fun _ _ _ => ⟨(Fa hb).2.2, fun o ho y hy => .inl ?_⟩, fun _ _ f => absurd f0 f, fun _ q => absurd k2 q⟩
   .dsimp only; split
    .exact Ji (Ji hy)
    exact hy
   dsimp only
   rw [if_pos (Fa hb).2.1]
   rcases ho with rfl | rfl
   .exact K6 hy
   exact Ji (K6 hy)
  rw [if_neg f0] at hs
  by_cases a : (⟨x.elem, x.fin⟩ : AN) ∈ nd \/ (⟨x.elem, x.fin⟩ : AN) ∈ g
  .rw [if_pos a] at hs
   subst hs
   refine hi.next (fun hb => (Fa hb).1) s1 s2 (fun y hy => ?_) (.inl sx) (fun _ h => h) (fun _ h => Nt h) (fun _ h => h) fun hb _ _ => ⟨fun q => absurd q k1, fun _ => k4, fun _ _ f => absurd f f0, fun _ _ _ => .inl ⟨(Fa hb).2.2, fun y hy => .inl ?_⟩, fun _ q => absurd k2 q⟩
   .dsimp only; split
    .exact Ji hy
    exact hy
   dsimp only
   rw [if_pos (Fa hb).2.1]
   exact K6 hy
  rw [if_neg a] at hs
  subst hs
  refine hi.next (fun h => h) s1 s2 (fun _ h => h) (.inl sx) (fun m hm => ?_) (fun _ h => h) (fun _ h => h) fun hb _ _ => ⟨fun q => absurd q k1, fun _ => k4, fun _ _ f => absurd f f0, fun _ _ _ => .inr ?_, fun _ q => absurd k2 q⟩
  .dsimp only; split
   .exact hm
   exact List.mem_append_left _ hm
  dsimp only; split
  .assumption
  simp
 rw [if_neg k2] at hs
 cases ht : BI p x.elem x.fin 0 with
 | none =>
  rw [ht] at hs
  subst hs
  exact hi.next (fun h => h) s1 s2 (fun _ h => h) (.inl sx) (fun _ h => h) (fun _ h => h) (fun _ h => h) fun hb _ _ => ⟨fun q => absurd q k1, fun _ => k4, fun _ q => absurd q k2, fun _ q => absurd q k2, fun _ _ o ho => (by rw [ht] at ho; cases ho)⟩
 | some o =>
  rw [ht] at hs
  subst hs
  refine hi.next (fun hb => (Fa hb).1) s1 s2 (fun y hy => ?_) (.inl sx) (fun _ h => h) (fun _ h => Nt h) (fun _ h => h) fun hb _ _ => ⟨fun q => absurd q k1, fun _ => k4, fun _ q => absurd q k2, fun _ q => absurd q k2, fun _ _ o' ho => ?_⟩
  .dsimp only; split
   .exact Ji hy
   exact hy
  rw [ht] at ho
  cases ho
  refine ⟨(Fa hb).2.2, fun y hy => .inl ?_⟩
  dsimp only
  rw [if_pos (Fa hb).2.1]
  exact K6 hy
theorem Tm (hv : CT p) (hn : Cr p n) (h1 : r.steps.length <= 12) (h2 : r.needs.length <= 1000) : ∃ g z h b, Gr n r = some ⟨r.frm, r.to, r.fin, r.steps, r.needs, g, z, h, b⟩ /\ UJ p r.steps z /\ Xr p r.steps g /\ (p.hard = true -> h = []) /\ g.length <= 700 /\ h.length <= 700 /\
  ∃ vis, KI p r.steps r.needs b vis g z h [] := by
 have hj := hv.nj
 have hp := Mi (p := p) r.steps
 rw [Ob hv hn h1 h2]
 obtain ⟨R, e1, g, z, h, b, rfl, e2⟩ := EE (step := B1 n r r.steps r.needs p) (Post := fun R => ∃ g z h b, R = (⟨r.frm, r.to, r.fin, r.steps, r.needs, g, z, h, b⟩ : AQ) /\ UJ p r.steps z /\ Xr p r.steps g /\ (p.hard = true -> h = []) /\ g.length <= 700 /\ h.length <= 700 /\ ∃ vis, KI p r.steps r.needs b vis g z h [])
  (fun k s => FI p r.steps 700 k s.2.1 s.2.2.1 s.2.2.2.1 s.2.2.2.2.1 s.2.2.2.2.2 /\ KI p r.steps r.needs s.1 s.2.1 s.2.2.1 s.2.2.2.1 s.2.2.2.2.1 s.2.2.2.2.2) 700 (s := (false, [], [], [], [], (D4 p (DY p r.steps)).reverse)) (by
   rintro k ⟨b, vis, g, z, h, l⟩ ⟨hi, hk⟩
   have hm := hi.meas
   have hlg := hi.lg
   have hlh := hi.lh
   have hzl := hi.zok.len
   dsimp only at hm hlg hlh hzl hi hk
   rcases List.eq_nil_or_concat l with rfl | ⟨l', x, rfl⟩
   .left
    exact ⟨_, rfl, g, z, h, b, rfl, hi.zok, hi.gok, hi.hold, by omega, by omega, vis, hk⟩
   .right
    rw [List.concat_eq_append] at hi hm hk ⊢
    simp only [List.length_append, List.length_cons, List.length_nil] at hm
    refine ⟨by omega, _, P8 hn h1 h2 b vis g z h l' x (by omega) (by omega) (by omega) (by omega), UK hv hi rfl, YR hk rfl⟩) (by
   refine ⟨⟨⟨by simp, by simp, by simp, by simp⟩, ⟨by simp, by simp⟩, fun _ => rfl, fun y hy => ?_, by simp, by simp, ?_⟩, fun _ x hx => ?_, fun x y hx hy => .inl ?_⟩
   .have := List.mem_reverse.1 hy
    obtain ⟨x, hx, rfl⟩ := List.mem_map.1 this
    obtain ⟨y, hy⟩ := Ke hx
    rw [hy]
    exact H6 hy
   .have h3 : Gg p [] <= (CD p).length := List.length_filter_le _ _
    have h4 : (CD p).length = 2 * p.joins.length := Gf _
    simp only [D4, List.length_reverse, List.length_map]
    omega
   .simp [BZ, AU] at hx
   rw [List.mem_reverse]
   exact List.mem_map.2 ⟨x, hx, by rw [hy]; rfl⟩)
 exact ⟨g, z, h, b, e1, e2⟩
end
end Go.E
/- Plain Lean: whether a road's flank keeps all others out, told without an order (VL, GuardP), and the program's answer. No condition. -/
namespace Go.E
open Go
def Zv (lay : Int -> Option Int) (e : Int) (w : Cx) : List Int := if w.pos = 0 \/ lay e = none \/ lay e = some w.pos then [w.out] else []
def Nv (p : AH) (lay : Int -> Option Int) (x : AD) : List Int := (CC p x.elem x.fin).flatMap (Zv lay x.elem)
def K7 (p : AH) (holds : List Int) (x : AD) : Prop := p.hard = false /\ 0 <= Az p x /\ Az p x ∈ holds
instance (p : AH) (holds : List Int) (x : AD) : Decidable (K7 p holds x) := by unfold K7; infer_instance
def Mo (p : AH) (lay : Int -> Option Int) (zone : List Int) (x : AD) : Prop := Af p x.elem ≠ 4 /\ (Nv p lay x ≠ [] -> x.elem ∈ zone)
instance (p : AH) (lay : Int -> Option Int) (zone : List Int) (x : AD) : Decidable (Mo p lay zone x) := by unfold Mo; infer_instance
inductive O8 (p : AH) (lay : Int -> Option Int) (holds : List Int) (st : List Ar) : AD -> Prop
 | init {x y : AD} : x ∈ DY p st -> Ap p x = some y -> O8 p lay holds st y
 | step {x y : AD} {o : Int} : O8 p lay holds st x -> x.elem ∉ st.map (·.elem) -> ¬ K7 p holds x -> o ∈ Nv p lay x -> Ap p ⟨x.elem, o⟩ = some y -> O8 p lay holds st y
def VL (p : AH) (lay : Int -> Option Int) (holds zone : List Int) (st : List Ar) : Prop := ∀ x, O8 p lay holds st x -> x.elem ∉ st.map (·.elem) -> ¬ K7 p holds x -> Mo p lay zone x
def OJ (nl : List AN) : Prop := ∀ a ∈ nl, ∀ b ∈ nl, a.elem = b.elem -> a.pos = b.pos
section
variable {p : AH} {n : CJ} {r : AQ} {lay : Int -> Option Int} {holds zone : List Int} {st : List Ar}
structure GI (p : AH) (lay : Int -> Option Int) (holds zone : List Int) (st : List Ar) (V : AD -> Prop) (q : List AD) : Prop where
 arr : ∀ x ∈ q, O8 p lay holds st x
 full : ∀ x, V x -> x.elem ∉ st.map (·.elem) -> ¬ K7 p holds x -> Mo p lay zone x /\ ∀ o ∈ Nv p lay x, ∀ y, Ap p ⟨x.elem, o⟩ = some y -> y ∈ q \/ V y
 init : ∀ x y, x ∈ DY p st -> Ap p x = some y -> y ∈ q \/ V y
theorem GI.done {V : AD -> Prop} (h : GI p lay holds zone st V []) : VL p lay holds zone st := by
 have key : ∀ x, O8 p lay holds st x -> V x := by
  intro x hx
  induction hx with
  | init h1 h2 => exact (h.init _ _ h1 h2).resolve_left (by simp)
  | step _ h2 h3 h4 h5 ih => exact ((h.full _ ih h2 h3).2 _ h4 _ h5).resolve_left (by simp)
 exact fun x hx h1 h2 => (h.full x (key x hx) h1 h2).1
theorem GI.bad {V : AD -> Prop} {x : AD} {q : List AD} (h : GI p lay holds zone st V (x :: q)) (h1 : x.elem ∉ st.map (·.elem)) (h2 : ¬ K7 p holds x) (hb : ¬ Mo p lay zone x) : ¬ VL p lay holds zone st :=
 fun hk => hb (hk x (h.arr x (by simp)) h1 h2)
theorem GI.next {V V' : AD -> Prop} {x : AD} {q q' : List AD} (h : GI p lay holds zone st V (x :: q)) (hV : ∀ y, V y -> V' y) (hx : V' x) (hV2 : ∀ y, V' y -> V y \/ y = x) (hq : ∀ y ∈ q, y ∈ q') (hq2 : ∀ y ∈ q', O8 p lay holds st y)
  (hf : ¬ V x -> x.elem ∉ st.map (·.elem) -> ¬ K7 p holds x -> Mo p lay zone x /\ ∀ o ∈ Nv p lay x, ∀ y, Ap p ⟨x.elem, o⟩ = some y -> y ∈ q' \/ V' y) : GI p lay holds zone st V' q' := by
 have keep : ∀ y, y ∈ x :: q \/ V y -> y ∈ q' \/ V' y := by
  rintro y (hy | hy)
  .rcases List.mem_cons.1 hy with rfl | hy
   .exact .inr hx
   exact .inl (hq y hy)
  exact .inr (hV y hy)
 refine ⟨hq2, fun y hy h1 h2 => ?_, fun a b ha hb => keep b (h.init a b ha hb)⟩
 by_cases c : V y
 .have := h.full y c h1 h2
  exact ⟨this.1, fun o ho z hz => keep z (this.2 o ho z hz)⟩
 rcases hV2 y hy with hy2 | rfl
 .exact absurd hy2 c
 exact hf c h1 h2
def TF (p : AH) (e : Int) (l : List Int) : List AD := l.flatMap fun o => match Ap p ⟨e, o⟩ with
 | some y => [y]
 | none => []
theorem QB {e o : Int} {l : List Int} {y : AD} : y ∈ TF p e l ↔ ∃ o ∈ l, Ap p ⟨e, o⟩ = some y := by
 unfold TF
 rw [List.mem_flatMap]
 constructor
 .rintro ⟨o, ho, hy⟩
  cases hx : Ap p ⟨e, o⟩ with
  | none => rw [hx] at hy; cases hy
  | some z => rw [hx] at hy; simp at hy; subst hy; exact ⟨o, ho, hx⟩
 rintro ⟨o, ho, hy⟩
 exact ⟨o, ho, by rw [hy]; simp⟩
theorem GI.go {V V' : AD -> Prop} {x : AD} {q : List AD} (h : GI p lay holds zone st V (x :: q)) (h1 : x.elem ∉ st.map (·.elem)) (h2 : ¬ K7 p holds x) (hg : Mo p lay zone x) (hV : ∀ y, V' y ↔ V y \/ y = x) : GI p lay holds zone st V' (q ++ TF p x.elem (Nv p lay x)) := by
 have hx := h.arr x (by simp)
 refine h.next (fun y hy => (hV y).2 (.inl hy)) ((hV x).2 (.inr rfl)) (fun y hy => (hV y).1 hy) (fun y hy => List.mem_append_left _ hy) (fun y hy => ?_) (fun _ _ _ => ⟨hg, fun o ho y hy => .inl (List.mem_append_right _ (QB (o := o) |>.2 ⟨o, ho, hy⟩))⟩)
 rcases List.mem_append.1 hy with hy | hy
 .exact h.arr y (by simp [hy])
 obtain ⟨o, ho, hy⟩ := (QB (o := 0)).1 hy
 exact .step hx h1 h2 ho hy
end
end Go.E
/- Plain Lean: a road that is guarded keeps all out, whatever way other points lie; what a flank keeps is guarded. No condition. -/
namespace Go.E
open Go
section
variable {p : AH} {n : CJ} {r : AQ} {lay : Int -> Option Int} {holds zone : List Int} {st : List Ar} {lie : List Int} {shut : List Bool}
end
end Go.E
/- Plain Lean: whether a road is guarded: the program's answer and the document's are one. No condition. -/
namespace Go.E
open Go
def okG (p : AH) (m : AN) : Prop := Af p m.elem = 2 /\ (m.pos = 1 \/ m.pos = 2)
instance (p : AH) (m : AN) : Decidable (okG p m) := by unfold okG; infer_instance
section
variable {p : AH} {n : CJ} {r : AQ}
end
end Go.E
/- Plain Lean: whether a road is guarded, by the program and by the document (law ProofGuards); what is guarded keeps (law ProofKeeps). No condition. -/
namespace Go.E
open Go
section
variable {p : AH} {n : CJ} {r : AQ}
end
end Go.E
/- Plain Lean: what is wrong first with a chart of a valid plan: the program's answer and the document's are one (checkF). No condition. -/
namespace Go.E
open Go
section
variable {p : AH} {n : CJ}
theorem WK (hv : CT p) {a b : AQ} (ha : UI p a = true) (hb : UI p b = true) (h : a.steps = b.steps) : a.frm = b.frm := by
 obtain ⟨s1, n1, l1, a1, a2, a3, a4, a5, a6, a7⟩ := K2 ha
 obtain ⟨s2, n2, l2, b1, b2, b3, b4, b5, b6, b7⟩ := K2 hb
 have key : ∀ (sg : A6) (st : List Ar) (nd : List AN), 1 <= st.length -> DF p sg.at_.elem (Ap p sg.at_) [] [] st = some nd -> ∃ q, st.head? = some q /\ Ap p sg.at_ = some ⟨q.elem, q.in_⟩ := fun sg st nd hl hs => by
  cases st with
  | nil => simp at hl
  | cons q r =>
   cases hx : Ap p sg.at_ with
   | none => rw [hx] at hs; simp [DF] at hs
   | some x =>
    rw [hx] at hs
    unfold DF at hs
    split at hs
    .cases hs
    rename_i c
    have e1 : q.elem = x.elem := Decidable.byContradiction fun h => c (.inl h)
    have e2 : q.in_ = x.fin := Decidable.byContradiction fun h => c (.inr (.inl h))
    exact ⟨q, rfl, by rw [e1, e2]⟩
 obtain ⟨q1, c1, c2⟩ := key s1 a.steps n1 a2 a4
 obtain ⟨q2, d1, d2⟩ := key s2 b.steps n2 b2 b4
 rw [h] at c1
 rw [c1] at d1
 cases d1
 have e1 := RL hv.join c2
 have e2 := RL hv.join d2
 rw [e1] at e2
 have e3 : s1.at_ = s2.at_ := by injection e2
 obtain ⟨f1, f2⟩ := WL a1
 obtain ⟨g1, g2⟩ := WL b1
 have r1 := hv.sig.reads _ _ f1
 have r2 := hv.sig.reads _ _ g1
 rw [e3, r2] at r1
 rw [f2, g2]; omega
end
end Go.E
/- Plain Lean: the chart of a valid plan with one thing of one road turned (law ProofTurned). No condition. -/
namespace Go.E
open Go
section
variable {p : AH} {n : CJ}
theorem VM (h : Ga p = some true) : Dn p = some 0 := by
 unfold Ga at h
 cases h1 : Is p with
 | none => rw [h1] at h; cases h
 | some b =>
  rw [h1] at h
  cases b with
  | false => cases h
  | true =>
   cases h2 : Dn p with
   | none => rw [h2] at h; cases h
   | some e =>
    rw [h2] at h
    simp only [Option.bind_some, cond_true, Option.some.injEq, beq_iff_eq] at h
    rw [h]
noncomputable def FY (n : CJ) (r : AQ) : AQ := (Gr n r).getD r
structure YS (p : AH) (r q : AQ) : Prop where
 frm : q.frm = r.frm
 to : q.to = r.to
 fin : q.fin = r.fin
 steps : q.steps = r.steps
 needs : q.needs = r.needs
 zone : UJ p r.steps q.zone
 guards : Xr p r.steps q.guards
 hard : p.hard = true -> q.holds = []
 lg : q.guards.length <= 700
 lh : q.holds.length <= 700
 keep : ∃ vis, KI p r.steps r.needs q.bare vis q.guards q.zone q.holds []
theorem L0 (hv : CT p) (hn : Cr p n) {r : AQ} (h1 : r.steps.length <= 12) (h2 : r.needs.length <= 1000) : Gr n r = some (FY n r) /\ YS p r (FY n r) := by
 obtain ⟨g, z, h, b, e1, e2, e3, e4, e5, e6, e7⟩ := Tm hv hn h1 h2
 have hR2 : FY n r = ⟨r.frm, r.to, r.fin, r.steps, r.needs, g, z, h, b⟩ := by unfold FY; rw [e1]; rfl
 refine ⟨by rw [hR2, e1], ?_⟩
 rw [hR2]
 exact ⟨rfl, rfl, rfl, rfl, rfl, e2, e3, e4, e5, e6, e7⟩
theorem XR (hv : CT p) (hn : Cr p n) {r : AQ} (h1 : r.steps.length <= 12) (h2 : r.needs.length <= 1000) : F0 p r = some (FY n r) := by
 obtain ⟨R, R1, R2⟩ := XQ hv hn h1 h2
 have hR : FY n r = R := by unfold FY; rw [R2]; rfl
 rw [hR, R1]
theorem ZK {α : Type} (l m : List α) (x y : α) : Bq (l ++ x :: m) (l.length : Int) y = l ++ y :: m := by
 show (l ++ x :: m).set (l.length : Int).toNat y = _
 rw [Int.toNat_natCast]
 simp
theorem WM {l : List AQ} (f : AQ -> AQ) {β : Type} {step : Int × List AQ -> Option ((Int × List AQ) ⊕ β)} {fin : List AQ -> β} (hl : l.length <= 1000)
  (h0 : ∀ c, c.length = l.length -> step ((l.length : Int), c) = some (.inr (fin c))) (h1 : ∀ (i : Nat) r c, l[i]? = some r -> c[i]? = some r -> c.length = l.length -> step ((i : Int), c) = some (.inl (((i + 1 : Nat) : Int), Bq c (i : Int) (f r)))) : AO step ((0 : Int), l) = some (fin (l.map f)) := by
 obtain ⟨b, h2, rfl⟩ := Bz (l := l) (step := step) (Post := fun b => b = fin (l.map f)) (fun i c => c = (l.take i).map f ++ l.drop i) (c := l)
  (fun c hc => ⟨fin c, h0 c (by rw [hc]; simp), by rw [hc, List.take_length, List.drop_length, List.append_nil]⟩)
  (fun i r c hr hc => by
   have hi := Ba hr
   have hd : l.drop i = r :: l.drop (i + 1) := by
    obtain ⟨h, e⟩ := List.getElem?_eq_some_iff.1 hr
    rw [List.drop_eq_getElem_cons h, e]
   have hlen : ((l.take i).map f).length = i := by simp; omega
   have hci : c[i]? = some r := by
    rw [hc, hd, List.getElem?_append_right (by omega), hlen]; simp
   refine .inr ⟨Bq c (i : Int) (f r), h1 i r c hr hci (by rw [hc]; simp; omega), ?_⟩
   have := ZK ((l.take i).map f) (l.drop (i + 1)) r (f r)
   rw [hlen] at this
   rw [hc, hd, this, List.take_add_one, hr]
   simp)
  (by simp)
 exact h2
theorem WN (hv : CT p) (hn : Cr p n) (h0 : Dn p = some 0) : ∃ c e, Dp p = some (c, e) /\ (e = 0 -> (D3 p).2 = 0 /\ c = ⟨p, (D3 p).1.map (FY n)⟩) := by
 unfold Dp
 simp only [h0, Option.bind_some, bne_self_eq_false, cond_false, U9 hv]
 by_cases c : (D3 p).2 = 0
 .have c' : ((D3 p).2 != 0) = false := by simp [c]
  rw [c']
  simp only [cond_false]
  have hl : (D3 p).1.length <= 64 := by
   unfold D3
   split
   .simp
   simp only; omega
  refine ⟨_, 0, ?_, fun _ => ⟨c, rfl⟩⟩
  exact WM (l := (D3 p).1) (FY n) (step := Ey p) (fin := fun l => ((⟨p, l⟩ : MZ), (0 : Int))) (by omega) (fun q hq => by
   have d : decide (((D3 p).1.length : Int) < (q.length : Int)) = false := decide_eq_false (by omega)
   simp only [Ey, d, cond_false]) (fun i r q hr hq hlen => by
   have hi := Ba hr
   obtain ⟨s, hs⟩ := O3 (List.mem_of_getElem? hr)
   have hro := Eb hs
   have f2 := XR hv hn (r := r) (H4 hs) (by have := hro.2.2.2.2.2.2.2.2; omega)
   have d : decide ((i : Int) < (q.length : Int)) = true := decide_eq_true (by omega)
   simp only [Ey, d, cond_true, AY, hq, Option.bind_some, f2, AT (show i < 1000000000 by omega)])
 have c' : ((D3 p).2 != 0) = true := by simp [c]
 rw [c']
 exact ⟨_, _, rfl, fun h => absurd h c⟩
end
end Go.E
/- Plain Lean: what is built is fine (law ProofBuilt); what a chart without one of its roads lacks, and with one of them twice (law ProofLacks). No condition. -/
namespace Go.E
open Go
section
variable {p : AH} {n : CJ}
theorem RO (hv : CT p) {s s' : Int} {a b : AQ} (ha : a ∈ GE p s) (hb : b ∈ GE p s') (h : a.steps = b.steps) : a = b /\ s = s' := by
 have fa := Eb ha
 have fb := Eb hb
 have e := WK hv fa.1 fb.1 h
 obtain ⟨s1, n1, l1, a1, a2, a3, a4, a5, a6, a7⟩ := K2 fa.1
 obtain ⟨s2, n2, l2, b1, b2, b3, b4, b5, b6, b7⟩ := K2 fb.1
 rw [e, b1] at a1
 have e1 : s2 = s1 := Option.some.inj a1
 subst e1
 rw [h, b4] at a4
 have e2 : n2 = n1 := Option.some.inj a4
 rw [h, b5] at a5
 have e3 : l2 = l1 := Option.some.inj a5
 subst e3
 have e4 : a.fin = b.fin /\ a.to = b.to := by
  unfold Mg at a6 b6
  split at a6
  .rename_i k
   rw [if_pos k] at b6
   simp only [decide_eq_true_eq] at a6 b6
   exact ⟨by rw [a6.1, b6.1], by rw [a6.2, b6.2]⟩
  rename_i k
  rw [if_neg k] at b6
  split at a6
  .rename_i k2
   rw [if_pos k2] at b6
   simp only [decide_eq_true_eq] at a6 b6
   exact ⟨by rw [a6.1, b6.1], by rw [a6.2, b6.2]⟩
  rename_i k2
  rw [if_neg k2] at b6
  simp only [Bool.and_eq_true, decide_eq_true_eq] at a6 b6
  exact ⟨by rw [a6.2.1, b6.2.1], by rw [a6.2.2, b6.2.2]⟩
 refine ⟨XD.2 ⟨e, e4.2, e4.1, h, by rw [a7, b7, e2], by rw [fa.2.2.1, fb.2.2.1], by rw [fa.2.2.2.1, fb.2.2.2.1], by rw [fa.2.2.2.2.1, fb.2.2.2.2.1], by rw [fa.2.2.2.2.2.1, fb.2.2.2.2.2.1]⟩, ?_⟩
 rw [<- fa.2.1, <- fb.2.1, e]
theorem K8 (hv : CT p) : ∀ i : Nat, (Ht p i).Nodup /\ ∀ r ∈ Ht p i, ∃ s : Nat, s < i /\ r ∈ GE p (s : Int)
 | 0 => ⟨by simp [Ht], by simp [Ht]⟩
 | i + 1 => by
  obtain ⟨h1, h2⟩ := K8 hv i
  rw [Nl]
  refine ⟨List.nodup_append.2 ⟨h1, WB _, fun a ha b hb e => ?_⟩, fun r hr => ?_⟩
  .obtain ⟨s, hs, hm⟩ := h2 a ha
   have := (RO hv hm hb (by rw [e])).2
   omega
  rcases List.mem_append.1 hr with hr | hr
  .obtain ⟨s, hs, hm⟩ := h2 r hr
   exact ⟨s, by omega, hm⟩
  exact ⟨i, by omega, hr⟩
theorem ZL {s : Nat} {r : AQ} (hs : s < p.signals.length) (hr : r ∈ GE p (s : Int)) : r ∈ Kd p := by
 unfold Kd Ht
 exact List.mem_flatMap.2 ⟨s, List.mem_range.2 hs, hr⟩
structure Rw (p : AH) (n : CJ) (l : List AQ) : Prop where
 eq : l = (Kd p).map (FY n)
 len : l.length <= 64
theorem Rw.inj (hv : CT p) (hn : Cr p n) {l : List AQ} (hb : Rw p n l) {i k : Nat} {a b : AQ} (ha : l[i]? = some a) (hk : l[k]? = some b) (h : a.steps = b.steps) : i = k := by
 rw [hb.eq, List.getElem?_map] at ha hk
 obtain ⟨x, hx, rfl⟩ := Option.map_eq_some_iff.1 ha
 obtain ⟨y, hy, rfl⟩ := Option.map_eq_some_iff.1 hk
 obtain ⟨s, hs, hm⟩ := (K8 hv p.signals.length).2 x (List.mem_of_getElem? hx)
 obtain ⟨s', hs', hm'⟩ := (K8 hv p.signals.length).2 y (List.mem_of_getElem? hy)
 obtain ⟨_, f⟩ := L0 hv hn (H4 hm) (show x.needs.length <= 1000 by have := (Eb hm).2.2.2.2.2.2.2.2; omega)
 obtain ⟨_, f'⟩ := L0 hv hn (H4 hm') (show y.needs.length <= 1000 by have := (Eb hm').2.2.2.2.2.2.2.2; omega)
 rw [f.steps, f'.steps] at h
 have e := (RO hv hm hm' h).1
 subst e
 have hnd := (K8 hv p.signals.length).1
 obtain ⟨h1, h2⟩ := List.getElem?_eq_some_iff.1 hx
 obtain ⟨h3, h4⟩ := List.getElem?_eq_some_iff.1 hy
 exact (List.getElem_inj hnd).1 (h2.trans h4.symm)
theorem Rw.have (hv : CT p) (hn : Cr p n) {l : List AQ} (hb : Rw p n l) {s : Nat} {r : AQ} (hs : s < p.signals.length) (hr : r ∈ GE p (s : Int)) : ∃ q ∈ l, q = FY n r /\ q.steps = r.steps := by
 obtain ⟨_, f⟩ := L0 hv hn (H4 hr) (show r.needs.length <= 1000 by have := (Eb hr).2.2.2.2.2.2.2.2; omega)
 exact ⟨_, by rw [hb.eq]; exact List.mem_map.2 ⟨r, ZL hs hr, rfl⟩, rfl, f.steps⟩
end
end Go.E
/- Plain Lean: the document's check takes each valid plan. No condition. -/
namespace Go.E
open Go
theorem KA {α β : Type} {l : List α} {step : Int -> Option (Int ⊕ β)} {b : β} (h0 : step (l.length : Int) = some (.inr b)) (h1 : ∀ (i : Nat) a, l[i]? = some a -> step (i : Int) = some (.inl ((i + 1 : Nat) : Int))) : AO step 0 = some b := by
 obtain ⟨c, hc, rfl⟩ := Bu (l := l) (step := step) (Post := fun c => c = b) (fun _ _ => True) (fun _ => ⟨b, h0, rfl⟩) (fun i a ha _ => .inr ⟨h1 i a ha, trivial⟩)
 exact hc
end Go.E
/- Plain Lean: the program's check answers of every plan that is not too long; what it takes is valid. No condition. -/
namespace Go.E
open Go
end Go.E
/- Plain Lean: the program and the document say the same of what is wrong first with a chart (ProofChecks). No condition. -/
namespace Go.E
open Go
end Go.E
/- Plain Lean: what a book of locks says, whatever the order in which its maps are gone through. No condition. -/
namespace Go.E
open Go
def Oy (m : List (Int × List Int)) (e : Int) : Int := match m.find? (fun p => decide (e ∈ p.2)) with
 | some p => p.1
 | none => -1
def XS (m : List (Int × List Int)) (e : Int) : Prop := ∀ p ∈ m, ∀ q ∈ m, e ∈ p.2 -> e ∈ q.2 -> p.1 = q.1
theorem Qk {m : List (Int × List Int)} {e : Int} (h : XS m e) {q : Int × List Int} (hq : q ∈ m) (he : e ∈ q.2) : Oy m e = q.1 := by
 unfold Oy
 cases hf : m.find? (fun p => decide (e ∈ p.2)) with
 | none => exact absurd he (by simpa using List.find?_eq_none.1 hf q hq)
 | some p => exact h p (List.mem_of_find?_eq_some hf) q hq (by simpa using List.find?_some hf) he
theorem Ql {m : List (Int × List Int)} {e : Int} (h : ∀ p ∈ m, e ∉ p.2) : Oy m e = -1 := by
 unfold Oy
 cases hf : m.find? (fun p => decide (e ∈ p.2)) with
 | none => rfl
 | some p => exact absurd (by simpa using List.find?_some hf) (h p (List.mem_of_find?_eq_some hf))
theorem Ma (b : AV) (e : Int) (h1 : XS b.steps e) (hl : ∀ p ∈ b.steps, p.2.length < 1000000) : BL b e = some (Oy b.steps e) := by
 unfold BL
 refine Kx (fun s => (∀ p ∈ s, p ∈ b.steps) /\ ∀ p ∈ b.steps, e ∈ p.2 -> p ∈ s) (fun s hs h0 => ?_) (fun s j y hs hy => ?_) ⟨fun p hp => hp, fun p hp _ => hp⟩
 .simp only [Ez]
  rw [Ql fun p hp he => by have := hs.2 p hp he; rw [h0] at this; cases this]
 have hmem := hs.1 y (List.mem_of_getElem? hy)
 have hp := IX hy
 simp only [FT, Ie y.2 (hl y hmem) e, Option.bind_some]
 by_cases he : e ∈ y.2
 .exact .inl (by rw [decide_eq_true he, Qk h1 hmem he]; rfl)
 refine .inr ⟨s.eraseIdx j, by rw [decide_eq_false he]; rfl, rfl, fun p h => hs.1 p (hp.mem_iff.1 (List.mem_cons_of_mem _ h)), fun p h h' => ?_⟩
 rcases List.mem_cons.1 (hp.mem_iff.2 (hs.2 p h h')) with rfl | h2
 .exact absurd h' he
 exact h2
def O1 (m : List (Int × List Int)) (e : Int) : List Int := Gv ((m.filter fun p => decide (e ∈ p.2)).map (·.1))
theorem Mb (b : AV) (e : Int) (hm : b.zone.length < 1000000) (hl : ∀ p ∈ b.zone, p.2.length < 1000000) : Bt b e = some (O1 b.zone e) := by
 unfold Bt
 refine Kx (fun s => (∀ p ∈ s.2, p ∈ b.zone) /\ (s.1 ++ (s.2.filter fun p => decide (e ∈ p.2)).map (·.1)).Perm ((b.zone.filter fun p => decide (e ∈ p.2)).map (·.1))) (fun s hs h0 => ?_) (fun s j y hs hy => ?_) ⟨fun p hp => hp, by simp⟩
 .obtain ⟨a, r⟩ := s
  simp only at h0 hs
  subst h0
  have hp := hs.2
  simp only [List.filter_nil, List.map_nil, List.append_nil] at hp
  have hlen := hp.length_eq
  have h2 := List.length_filter_le (fun p => decide (e ∈ p.2)) b.zone
  rw [List.length_map] at hlen
  have e1 : IW a = some (Gv a) := by unfold IW; rw [if_pos (by omega)]
  simp only [E0, e1, Option.bind_some, Option.map_some, OX hp]
  rfl
 obtain ⟨a, r⟩ := s
 obtain ⟨h1, h2⟩ := hs
 simp only at h1 h2 hy ⊢
 have hmem := h1 y (List.mem_of_getElem? hy)
 have hp := IX hy
 have hlen := h2.length_eq
 have h3 := List.length_filter_le (fun p => decide (e ∈ p.2)) b.zone
 simp only [List.length_append, List.length_map] at hlen
 have hsub : ∀ p ∈ r.eraseIdx j, p ∈ b.zone := fun p h => h1 p (hp.mem_iff.1 (List.mem_cons_of_mem _ h))
 have hpf := ((hp.filter fun p => decide (e ∈ p.2)).map (·.1))
 simp only [FU, Ie y.2 (hl y hmem) e, Option.bind_some]
 by_cases he : e ∈ y.2
 .refine .inr ⟨(a ++ [y.1], r.eraseIdx j), ?_, rfl, hsub, ?_⟩
  .rw [decide_eq_true he, BK (by simp; omega)]; rfl
  rw [List.filter_cons_of_pos (by simpa using he)] at hpf
  simp only [List.append_assoc, List.singleton_append]
  exact (List.Perm.append_left a hpf).trans h2
 refine .inr ⟨(a, r.eraseIdx j), by rw [decide_eq_false he]; rfl, rfl, hsub, ?_⟩
 rw [List.filter_cons_of_neg (by simpa using he)] at hpf
 exact (List.Perm.append_left a hpf).trans h2
def Cv (l : List AN) (e : Int) : Option Int := (l.find? fun x => x.elem == e).map (·.pos)
def Gh (b : AV) (o : Int) : List AN := (AU b.needs o).getD [] ++ (AU b.guards o).getD []
def Ca (b : AV) (e : Int) (m : List (Int × List AN)) : List Int := m.filterMap fun p => Cv (Gh b p.1) e
def AAH (b : AV) (e : Int) : Prop := ∀ x ∈ Ca b e b.needs, ∀ y ∈ Ca b e b.needs, x = y
theorem WP (l : List AN) (e : Int) (hl : l.length < 1000000) {β : Type} {step : Int -> Option (Int ⊕ β)} {no : β} {yes : Int -> β} (h0 : step (l.length : Int) = some (.inr no))
  (h1 : ∀ (i : Nat) x, l[i]? = some x -> step (i : Int) = bif x.elem == e then some (.inr (yes x.pos)) else some (.inl ((i + 1 : Nat) : Int))) : AO step 0 = some (match Cv l e with | some q => yes q | none => no) := by
 obtain ⟨b, hb, hp⟩ := Bu (l := l) (step := step) (Post := fun b => b = match Cv l e with | some q => yes q | none => no) (fun _ x => x.elem ≠ e) (fun g => ⟨no, h0, by
  have : l.find? (fun x => x.elem == e) = none := List.find?_eq_none.2 fun x hx => by
   obtain ⟨i, hi⟩ := List.mem_iff_getElem?.1 hx
   simpa using g i x hi
  simp only [Cv, this, Option.map_none]⟩) (fun i x hx hg => by
  rw [h1 i x hx]
  by_cases he : x.elem = e
  .refine .inl ⟨yes x.pos, by simp [he], ?_⟩
   have : l.find? (fun x => x.elem == e) = some x := by
    rw [List.find?_eq_some_iff_getElem]
    exact ⟨by simpa using he, i, Ba hx, (List.getElem?_eq_some_iff.1 hx).2, fun j hj => by
     have := hg j _ hj (List.getElem?_eq_getElem (by have := Ba hx; omega))
     simpa using this⟩
   simp only [Cv, this, Option.map_some]
  exact .inr ⟨by rw [beq_eq_false_iff_ne.2 he]; rfl, he⟩)
 rw [hb, hp]
theorem OE (b : AV) (e : Int) (hm : b.needs.length < 1000000) (hl : ∀ p ∈ b.needs, ((AU b.needs p.1).getD []).length < 100000 /\ ((AU b.guards p.1).getD []).length < 100000) (h1 : AAH b e) :
  Bc b e = some ((Ca b e b.needs).headD 0, ((Ca b e b.needs).length : Int)) := by
 have hle := List.length_filterMap_le (fun p : Int × List AN => Cv (Gh b p.1) e) b.needs
 unfold Bc
 refine Kx (fun s => (∀ p ∈ s.2.2, p ∈ b.needs) /\ 0 <= s.2.1 /\ s.2.1 + ((Ca b e s.2.2).length : Int) = ((Ca b e b.needs).length : Int) /\ (s.2.1 = 0 -> s.1 = 0) /\ (s.2.1 ≠ 0 -> s.1 = (Ca b e b.needs).headD 0)) (fun s hs h0 => ?_) (fun s j y hs hy => ?_) ⟨fun p hp => hp, Int.le_refl _, by simp, fun _ => rfl, fun h => absurd rfl h⟩
 .obtain ⟨x, n, r⟩ := s
  simp only at h0 hs
  subst h0
  obtain ⟨-, a1, a2, a3, a4⟩ := hs
  simp only [Ca, List.filterMap_nil, List.length_nil] at a2
  simp only [FV]
  have e1 : n = ((Ca b e b.needs).length : Int) := by unfold Ca; omega
  have e2 : x = (Ca b e b.needs).headD 0 := by
   by_cases hz : n = 0
   .rw [a3 hz]
    have : Ca b e b.needs = [] := List.length_eq_zero_iff.1 (by omega)
    rw [this]; rfl
   exact a4 hz
  rw [e1, e2]
 obtain ⟨x, n, r⟩ := s
 obtain ⟨h2, a1, a2, a3, a4⟩ := hs
 simp only at h2 a1 a2 a3 a4 hy ⊢
 have hmem := h2 y (List.mem_of_getElem? hy)
 obtain ⟨l1, l2⟩ := hl y hmem
 have hp := IX hy
 have hsub : ∀ p ∈ r.eraseIdx j, p ∈ b.needs := fun p h => h2 p (hp.mem_iff.1 (List.mem_cons_of_mem _ h))
 have hpl := (hp.filterMap fun p : Int × List AN => Cv (Gh b p.1) e).length_eq
 have c1 : BG ((AU b.needs y.1).getD []) = some ((AU b.needs y.1).getD []) := Dg _ (by omega)
 have ha : (Gh b y.1).length < 1000000 := by unfold Gh; rw [List.length_append]; omega
 simp only [F3, c1, Option.bind_some, BK (show ((AU b.needs y.1).getD []).length + ((AU b.guards y.1).getD []).length <= 4294967296 by omega)]
 have hn : n <= (Ca b e b.needs).length := by omega
 have hlt : (Ca b e b.needs).length < 1000000 := by unfold Ca; omega
 have L := WP (Gh b y.1) e ha (step := DD e (x, n, r) (r.eraseIdx j) (Gh b y.1)) (no := .inl (x, n, r.eraseIdx j)) (yes := fun q => .inl (q, AX (n + 1), r.eraseIdx j)) (by simp only [DD, B2, cond_false]) (fun i z hz => by
  have := Ba hz
  simp only [DD, BQ hz, cond_true, AY, hz, Option.bind_some, AT (show i < 1000000000 by omega)])
 unfold Gh at L
 rw [L]
 cases hf : Cv ((AU b.needs y.1).getD [] ++ (AU b.guards y.1).getD []) e with
 | none =>
  refine .inr ⟨(x, n, r.eraseIdx j), rfl, rfl, hsub, a1, ?_, a3, a4⟩
  rw [List.filterMap_cons_none (by unfold Gh; exact hf)] at hpl
  simp only
  unfold Ca at a2 ⊢
  omega
 | some q =>
  have hq : q ∈ Ca b e b.needs := List.mem_filterMap.2 ⟨y, hmem, by unfold Gh; exact hf⟩
  have hhd : q = (Ca b e b.needs).headD 0 := by
   cases hh : Ca b e b.needs with
   | nil => rw [hh] at hq; cases hq
   | cons z zs => exact h1 q hq z (by rw [hh]; simp)
  rw [List.filterMap_cons_some (by unfold Gh; exact hf), List.length_cons] at hpl
  have hw : AX (n + 1) = n + 1 := CG (by omega) (by omega)
  refine .inr ⟨(q, AX (n + 1), r.eraseIdx j), rfl, rfl, hsub, ?_, ?_, fun h => ?_, fun _ => hhd⟩
  .simp only [hw]; omega
  .simp only [hw]; unfold Ca at a2 ⊢; omega
  simp only [hw] at h; omega
end Go.E
/- Plain Lean: of two roads each is taken for itself; which is refused beside the other. No condition. -/
namespace Go.E
open Go
structure D0 (n : Int) (r : AQ) : Prop where
 one : 1 <= r.steps.length
 ls : r.steps.length <= 1000
 ln : r.needs.length <= 1000
 lg : r.guards.length <= 1000
 lz : r.zone.length <= 1000
 step : ∀ s ∈ r.steps, 0 <= s.elem /\ s.elem < n
 once : (r.steps.map (·.elem)).Nodup
 zone : ∀ e ∈ r.zone, 0 <= e /\ e < n /\ e ∉ r.steps.map (·.elem)
 need : ∀ x ∈ r.needs ++ r.guards, (0 <= x.elem /\ x.elem < n) /\ (x.pos = 1 \/ x.pos = 2)
 cons : OJ (r.needs ++ r.guards)
theorem OK (b : AV) (e : Int) : DN b e = some (decide (0 <= e) && decide (e < b.elems)) := by
 unfold DN
 cases decide (0 <= e) <;> rfl
theorem XT (b : AV) (r : AQ) (h : D0 b.elems r) : Cn b r = some true := by
 have h1 := h.one; have h2 := h.ls; have h3 := h.ln; have h4 := h.lg; have h5 := h.lz
 unfold Cn
 rw [beq_eq_false_iff_ne.2 (show ((r.steps.length : Int)) ≠ 0 by omega)]
 simp only [cond_false]
 have one4 : ∀ (i : Nat) (l done : List AN) (s : Int × List (Int × Int)), s.1 = (i : Int) -> i <= 2 -> l.length <= 1000 -> (∀ x ∈ done ++ l, (0 <= x.elem /\ x.elem < b.elems) /\ (x.pos = 1 \/ x.pos = 2)) -> OJ (done ++ l) -> (∀ k v, AU s.2 k = some v -> ∃ x ∈ done, x.elem = k /\ x.pos = v) ->
   ∃ c', AO (Bw b s l) (0, s.2) = some (.inl (((i + 1 : Nat) : Int), c')) /\ ∀ k v, AU c' k = some v -> ∃ x ∈ done ++ l, x.elem = k /\ x.pos = v := by
  intro i l done s hs hi hl hx hc hI
  obtain ⟨t, ht, c', rfl, hc'⟩ : ∃ t, AO (Bw b s l) (0, s.2) = some t /\ ∃ c', t = .inl (((i + 1 : Nat) : Int), c') /\ ∀ k v, AU c' k = some v -> ∃ x ∈ done ++ l, x.elem = k /\ x.pos = v := by
   refine Bz (l := l) (fun j c => ∀ k v, AU c k = some v -> ∃ x ∈ done ++ l.take j, x.elem = k /\ x.pos = v) (fun c hc' => ?_) (fun j x c hj hc' => ?_) (c := s.2) (fun k v hk => by obtain ⟨x, hx, e⟩ := hI k v hk; exact ⟨x, by simpa using hx, e⟩)
   .rw [List.take_length] at hc'
    exact ⟨_, by simp only [Bw, B2, cond_false, hs, AT (show i < 1000000000 by omega)], c, rfl, hc'⟩
   have hjl := Ba hj
   have hm : x ∈ done ++ l := List.mem_append_right _ (List.mem_of_getElem? hj)
   obtain ⟨⟨x1, x2⟩, x3⟩ := hx x hm
   have hp : ((bif (x.pos != 1) then bif (x.pos != 2) then some true else bif (AU c x.elem).isSome then some (((AU c x.elem).getD 0) != x.pos) else some false else bif (AU c x.elem).isSome then some (((AU c x.elem).getD 0) != x.pos) else some false : Option Bool)) = some false := by
    have hq : ((bif (AU c x.elem).isSome then some (((AU c x.elem).getD 0) != x.pos) else some false : Option Bool)) = some false := by
     cases ha : AU c x.elem with
     | none => rfl
     | some v =>
      obtain ⟨y, hy, y1, y2⟩ := hc' _ _ ha
      have hy' : y ∈ done ++ l := by
       rcases List.mem_append.1 hy with hy | hy
       .exact List.mem_append_left _ hy
       exact List.mem_append_right _ (List.mem_of_mem_take hy)
      have := hc y hy' x hm y1
      simp only [Option.isSome_some, cond_true, Option.getD_some, Option.some.injEq, bne_eq_false_iff_eq]
      omega
    rcases x3 with x3 | x3 <;> simp only [x3] at hq ⊢ <;> exact hq
   refine .inr ⟨Av x.elem x.pos c, ?_, fun k v hk => ?_⟩
   .simp only [Bw, BQ hj, cond_true, AY, hj, Option.bind_some, OK, decide_eq_true x1, decide_eq_true x2, Bool.and_self, Bool.not_true, cond_false, hp, AT (show j < 1000000000 by omega)]
   rw [Cp] at hk
   rw [List.take_add_one, hj]
   by_cases e : k = x.elem
   .rw [if_pos e] at hk; cases hk
    exact ⟨x, by simp, e.symm, rfl⟩
   rw [if_neg e] at hk
   obtain ⟨y, hy, e2⟩ := hc' k v hk
   exact ⟨y, by rw [<- List.append_assoc]; exact List.mem_append_left _ hy, e2⟩
  exact ⟨c', ht, hc'⟩
 have l3 : AO (BH b r) (0, []) = some true := by
  obtain ⟨c1, e1, d1⟩ := one4 0 r.needs [] (0, []) rfl (by omega) h3 (fun x hx => h.need x (List.mem_append_left _ (by simpa using hx))) (fun x hx y hy => h.cons x (List.mem_append_left _ (by simpa using hx)) y (List.mem_append_left _ (by simpa using hy))) (fun k v hk => by simp [AU] at hk)
  obtain ⟨c2, e2, d2⟩ := one4 1 r.guards r.needs (1, c1) rfl (by omega) h4 h.need h.cons (fun k v hk => by simpa using d1 k v hk)
  have i0 : Ad ([r.needs, r.guards] : List (List AN)) 0 = some r.needs := rfl
  have i1 : Ad ([r.needs, r.guards] : List (List AN)) 1 = some r.guards := rfl
  have s1 : BH b r (0, []) = some (.inl (1, c1)) := by
   simp only [BH, i0, Option.bind_some]; rw [e1]; rfl
  have s2 : BH b r (1, c1) = some (.inl (2, c2)) := by
   simp only [BH, i1, Option.bind_some]; rw [e2]; rfl
  rw [CL s1, CL s2]
  exact CV rfl
 obtain ⟨t, ht, rfl⟩ : ∃ t, AO (CS b r) (0, []) = some t /\ t = true := by
  refine Bz (l := r.steps) (fun j c => ∀ e, (AU c e).getD false = decide (e ∈ (r.steps.take j).map (·.elem))) (fun c hc => ?_) (fun j s c hj hc => ?_) (c := []) (fun e => by simp [AU])
  .rw [List.take_length] at hc
   refine ⟨true, ?_, rfl⟩
   have l2 : AO (CA b r ((r.steps.length : Int), c)) 0 = some true := KA (l := r.zone) (by simp only [CA, B2, cond_false, l3]; rfl) (fun i e he => by
    have := Ba he
    obtain ⟨z1, z2, z3⟩ := h.zone e (List.mem_of_getElem? he)
    simp only [CA, BQ he, cond_true, AY, he, Option.bind_some, OK, decide_eq_true z1, decide_eq_true z2, Bool.and_self, Bool.not_true, cond_false, hc, decide_eq_false z3, AT (show i < 1000000000 by omega)])
   simp only [CS, B2, cond_false, l2]; rfl
  have := Ba hj
  obtain ⟨s1, s2⟩ := h.step s (List.mem_of_getElem? hj)
  have hnew : s.elem ∉ (r.steps.take j).map (·.elem) := by
   intro hm
   obtain ⟨x, hx, hxe⟩ := List.mem_map.1 hm
   obtain ⟨i, hi, hie⟩ := Mc hx
   have a1 : (r.steps.map (·.elem))[i]? = some s.elem := by rw [List.getElem?_map, hie]; simp [hxe]
   have a2 : (r.steps.map (·.elem))[j]? = some s.elem := by rw [List.getElem?_map, hj]; rfl
   have := (List.getElem?_inj (Ba a1) h.once).1 (a1.trans a2.symm)
   omega
  refine .inr ⟨Av s.elem true c, ?_, fun e => ?_⟩
  .simp only [CS, BQ hj, cond_true, AY, hj, Option.bind_some, OK, decide_eq_true s1, decide_eq_true s2, Bool.and_self, Bool.not_true, cond_false, hc, decide_eq_false hnew, AT (show j < 1000000000 by omega)]
  rw [Cp, DC hj]
  by_cases he : e = s.elem
  .simp [he]
  rw [if_neg he, hc]; simp only [List.mem_append, List.mem_singleton, he, or_false]
 exact ht
end Go.E
/- Plain Lean: what may be taken from a book of none, and beside one road (May, Take). No condition. -/
namespace Go.E
open Go
theorem O9 {α β : Type} {l : List α} {step : Int -> Option (Int ⊕ β)} (bad : α -> Bool) (x : β) (fin : Option β) (h0 : step (l.length : Int) = fin.map .inr)
  (h1 : ∀ (i : Nat) a, l[i]? = some a -> step (i : Int) = bif bad a then some (.inr x) else some (.inl ((i + 1 : Nat) : Int))) : AO step 0 = if l.any bad = true then some x else fin := by
 refine Jd (γ := Unit) l (fun i _ => (i : Int)) (fun _ _ r => if r.any bad = true then some x else fin) (fun _ => ?_) (fun i _ a r ha hi => ?_) ()
 .rw [h0]; simp
 cases hb : bad a with
 | true => left; rw [h1 i a ha, hb]; simp [hb]
 | false => right; exact ⟨(), by rw [h1 i a ha, hb]; rfl, by simp [hb]⟩
def Jp (ow : Int -> Int) (zo : Int -> List Int) (po : Int -> Int) (r : AQ) : Int :=
 if (r.steps.any fun s => decide (0 <= ow s.elem) || decide (0 < ((zo s.elem).length : Int))) = true then 14 else if (r.zone.any fun e => decide (0 <= ow e)) = true then 14 else
  if (r.needs.any fun x => (po x.elem != 0) && (po x.elem != x.pos)) = true then 15 else if (r.guards.any fun x => (po x.elem != 0) && (po x.elem != x.pos)) = true then 15 else 0
theorem TH (b : AV) (o : Int) (r : AQ) (hr : D0 b.elems r) (ho : 0 <= o) (hh : BM b o = some false) {ow : Int -> Int} {zo : Int -> List Int} {po : Int -> Int}
  (hO : ∀ e, BL b e = some (ow e)) (hZ : ∀ e, Bt b e = some (zo e)) (hH : ∀ e, ∃ k, Bc b e = some (po e, k)) : BU b o r = some (Jp ow zo po r) := by
 have h2 := hr.ls; have h3 := hr.ln; have h4 := hr.lg; have h5 := hr.lz
 unfold BU
 simp only [decide_eq_false (show ¬ o < 0 by omega), cond_false, hh, Option.bind_some, XT b r hr, Bool.not_true]
 have l4 : ∀ (l : List AN) (i : Nat), l.length <= 1000 -> i <= 2 -> AO (Cd b (i : Int) l) 0 = if (l.any fun x => (po x.elem != 0) && (po x.elem != x.pos)) = true then some (.inr 15) else some (.inl ((i + 1 : Nat) : Int)) := by
  intro l i hl hi
  refine O9 (l := l) _ _ _ (by simp only [Cd, B2, cond_false, AT (show i < 1000000000 by omega)]; rfl) (fun j x hx => ?_)
  have := Ba hx
  obtain ⟨k, hk⟩ := hH x.elem
  simp only [Cd, BQ hx, cond_true, AY, hx, Option.bind_some, hk, AT (show j < 1000000000 by omega)]
  cases (po x.elem != 0) <;> rfl
 have i0 : Ad ([r.needs, r.guards] : List (List AN)) 0 = some r.needs := rfl
 have i1 : Ad ([r.needs, r.guards] : List (List AN)) 1 = some r.guards := rfl
 have s0 : CB b r 0 = AO (Cd b ((0 : Nat) : Int) r.needs) 0 := by
  simp only [CB, i0, Option.bind_some]; rfl
 have s1 : CB b r 1 = AO (Cd b ((1 : Nat) : Int) r.guards) 0 := by
  simp only [CB, i1, Option.bind_some]; rfl
 have l3 : AO (CB b r) 0 = some (if (r.needs.any fun x => (po x.elem != 0) && (po x.elem != x.pos)) = true then 15 else if (r.guards.any fun x => (po x.elem != 0) && (po x.elem != x.pos)) = true then 15 else 0) := by
  rw [l4 _ 0 h3 (by omega)] at s0
  rw [l4 _ 1 h4 (by omega)] at s1
  by_cases c : (r.needs.any fun x => (po x.elem != 0) && (po x.elem != x.pos)) = true
  .rw [if_pos c] at s0 ⊢
   exact CV s0
  rw [if_neg c] at s0 ⊢
  rw [CL s0]
  show AO (CB b r) 1 = _
  by_cases c2 : (r.guards.any fun x => (po x.elem != 0) && (po x.elem != x.pos)) = true
  .rw [if_pos c2] at s1 ⊢
   exact CV s1
  rw [if_neg c2] at s1 ⊢
  rw [CL s1]
  exact CV rfl
 have l2 := O9 (l := r.zone) (step := Cy b r) (fun e => decide (0 <= ow e)) 14 (AO (CB b r) 0) (by simp only [Cy, B2, cond_false]) (fun i e he => by
  have := Ba he
  simp only [Cy, BQ he, cond_true, AY, he, Option.bind_some, hO, AT (show i < 1000000000 by omega)])
 have l1 := O9 (l := r.steps) (step := DW b r) (fun s => decide (0 <= ow s.elem) || decide (0 < ((zo s.elem).length : Int))) 14 (AO (Cy b r) 0) (by simp only [DW, B2, cond_false]) (fun i s hs => by
  have := Ba hs
  simp only [DW, BQ hs, cond_true, AY, hs, Option.bind_some, hO, hZ, AT (show i < 1000000000 by omega)]
  cases decide (0 <= ow s.elem) <;> rfl)
 rw [l1, l2, l3]
 unfold Jp
 repeat' split
 all_goals rfl
theorem UL (b : AV) (o : Int) (r : AQ) {e : Int} (h : BU b o r = some e) (he : e ≠ 0) : BT b o r = some (b, e) := by
 have he' : (e != 0) = true := bne_iff_ne.2 he
 unfold BT
 rw [h]
 simp only [Option.bind_some, he', cond_true]
theorem Oz (b : AV) (o : Int) (r : AQ) (hr : D0 b.elems r) (h : BU b o r = some 0) :
  BT b o r = some (⟨b.elems, Av o (r.steps.map (·.elem)) b.steps, Av o r.zone b.zone, Av o r.needs b.needs, Av o r.guards b.guards⟩, 0) := by
 have h2 := hr.ls; have h3 := hr.ln; have h4 := hr.lg; have h5 := hr.lz
 unfold BT
 rw [h]
 simp only [Option.bind_some, bne_self_eq_false, cond_false]
 obtain ⟨t, ht, rfl⟩ := Bz (l := r.steps) (step := DE b o r) (Post := fun t => t = (⟨b.elems, Av o (r.steps.map (·.elem)) b.steps, Av o r.zone b.zone, Av o r.needs b.needs, Av o r.guards b.guards⟩, 0)) (fun i c => c = (r.steps.take i).map (·.elem)) (fun c hc => by
   rw [List.take_length] at hc
   subst hc
   have c1 : Bx r.zone = some r.zone := Dg _ (by omega)
   have c2 : BG r.needs = some r.needs := Dg _ (by omega)
   have c3 : BG r.guards = some r.guards := Dg _ (by omega)
   exact ⟨_, by simp only [DE, B2, cond_false, c1, c2, c3, Option.bind_some, Option.map_some], rfl⟩) (fun i a c ha hc => by
   subst hc
   have := Ba ha
   refine .inr ⟨_, ?_, (DC ha).symm⟩
   simp only [DE, BQ ha, cond_true, AY, ha, Option.bind_some, BK (l := (r.steps.take i).map (·.elem)) (m := [a.elem]) (by simp; omega), AT (show i < 1000000000 by omega)]) (c := []) rfl
 exact ht
def OF (n : Int) : AV := ⟨n, [], [], [], []⟩
def C5 (n a : Int) (r : AQ) : AV := ⟨n, [(a, r.steps.map (·.elem))], [(a, r.zone)], [(a, r.needs)], [(a, r.guards)]⟩
def Sq (a c : AQ) : Int := Jp (fun e => if e ∈ a.steps.map (·.elem) then 0 else -1) (fun e => if e ∈ a.zone then [0] else []) (fun e => (Cv (a.needs ++ a.guards) e).getD 0) c
theorem Zr (n o : Int) (r : AQ) (hr : D0 n r) (ho : 0 <= o) : BT (OF n) o r = some (C5 n o r, 0) := by
 have h := TH (OF n) o r hr ho rfl (ow := fun _ => -1) (zo := fun _ => []) (po := fun _ => 0)
  (fun e => by rw [Ma _ _ (fun p hp => by cases hp) (fun p hp => by cases hp)]; rfl)
  (fun e => by rw [Mb _ _ (by simp [OF]) (fun p hp => by cases hp)]; rfl)
  (fun e => ⟨0, by rw [OE _ _ (by simp [OF]) (fun p hp => by cases hp) (fun x hx => by cases hx)]; rfl⟩)
 have h0 : Jp (fun _ => -1) (fun _ => []) (fun _ => 0) r = 0 := by
  unfold Jp
  simp
 rw [h0] at h
 rw [Oz (OF n) o r hr h]
 rfl
theorem YT {ow ow' : Int -> Int} {zo zo' : Int -> List Int} {po : Int -> Int} (r : AQ) (h1 : ∀ e, (0 <= ow e ↔ 0 <= ow' e)) (h2 : ∀ e, (zo e).length = (zo' e).length) : Jp ow zo po r = Jp ow' zo' po r := by
 unfold Jp
 have e1 : ∀ e, decide (0 <= ow e) = decide (0 <= ow' e) := fun e => decide_eq_decide.2 (h1 e)
 simp only [e1, h2]
theorem Yz (n o q : Int) (a c : AQ) (ha : D0 n a) (hc : D0 n c) (ho : 0 <= o) (hq : 0 <= q) (hne : q ≠ o) : BU (C5 n o a) q c = some (Sq a c) := by
 have hN : Ca (C5 n o a) = fun e m => m.filterMap fun p => Cv (Gh (C5 n o a) p.1) e := rfl
 have hall : Gh (C5 n o a) o = a.needs ++ a.guards := by simp [Gh, C5, AU]
 have h := TH (C5 n o a) q c hc hq (by
   have : (q == o) = false := beq_eq_false_iff_ne.2 hne
   unfold BM
   simp only [C5, AU, this, Bool.false_eq_true, if_false, Option.getD_none]
   rfl) (ow := fun e => if e ∈ a.steps.map (·.elem) then o else -1) (zo := fun e => if e ∈ a.zone then [o] else []) (po := fun e => (Cv (a.needs ++ a.guards) e).getD 0)
  (fun e => by
   rw [Ma _ _ (fun p hp p' hp' _ _ => by simp [C5] at hp hp'; rw [hp, hp']) (fun p hp => by simp [C5] at hp; subst hp; have := ha.ls; simp; omega)]
   by_cases he : e ∈ a.steps.map (·.elem)
   .simp only [if_pos he]
    rw [Qk (q := (o, a.steps.map (·.elem))) (fun p hp p' hp' _ _ => by simp [C5] at hp hp'; rw [hp, hp']) (by simp [C5]) he]
   simp only [if_neg he]
   rw [Ql fun p hp => by simp only [C5, List.mem_singleton] at hp; subst hp; exact he])
  (fun e => by
   rw [Mb _ _ (by simp [C5]) (fun p hp => by simp [C5] at hp; subst hp; have := ha.lz; simp; omega)]
   by_cases he : e ∈ a.zone
   .simp only [if_pos he, O1, C5, List.filter_cons, decide_eq_true he]; rfl
   simp only [if_neg he, O1, C5, List.filter_cons, decide_eq_false he]; rfl)
  (fun e => by
   have hL : Ca (C5 n o a) e (C5 n o a).needs = (Cv (a.needs ++ a.guards) e).toList := by
    show [(o, a.needs)].filterMap _ = _
    simp only [List.filterMap_cons, List.filterMap_nil, hall]
    cases Cv (a.needs ++ a.guards) e <;> rfl
   refine ⟨((Cv (a.needs ++ a.guards) e).toList.length : Int), (OE _ _ (by simp [C5]) (fun p hp => ?_) (fun x hx y hy => ?_)).trans ?_⟩
   .simp only [C5, List.mem_singleton] at hp
    subst hp
    have := ha.ln; have := ha.lg
    simp [C5, AU]; omega
   .rw [hL] at hx hy
    cases hf : Cv (a.needs ++ a.guards) e with
    | none => rw [hf] at hx; cases hx
    | some v => rw [hf] at hx hy; simp at hx hy; rw [hx, hy]
   rw [hL]
   cases Cv (a.needs ++ a.guards) e <;> rfl)
 rw [YT (ow' := fun e => if e ∈ a.steps.map (·.elem) then 0 else -1) (zo' := fun e => if e ∈ a.zone then [0] else []) c (fun e => by split <;> omega) (fun e => by split <;> rfl)] at h
 exact h
end Go.E
/- Plain Lean: which of two roads is refused beside the other, as the book and as the document say; LockClash. No condition. -/
namespace Go.E
open Go
def XU (a c : AQ) : Prop := (∃ s ∈ c.steps, s.elem ∈ a.steps.map (·.elem) \/ s.elem ∈ a.zone) \/ ∃ e ∈ c.zone, e ∈ a.steps.map (·.elem)
def XV (a c : AQ) : Prop := ∃ x ∈ c.needs ++ c.guards, ∃ y ∈ a.needs ++ a.guards, y.elem = x.elem /\ y.pos ≠ x.pos
theorem XU.symm {a c : AQ} (h : XU a c) : XU c a := by
 rcases h with ⟨s, hs, h | h⟩ | ⟨e, he, h⟩
 .obtain ⟨t, ht, e⟩ := List.mem_map.1 h
  exact .inl ⟨t, ht, .inl (e ▸ List.mem_map_of_mem hs)⟩
 .exact .inr ⟨s.elem, h, List.mem_map_of_mem hs⟩
 obtain ⟨t, ht, e2⟩ := List.mem_map.1 h
 exact .inl ⟨t, ht, .inr (e2 ▸ he)⟩
theorem XV.symm {a c : AQ} (h : XV a c) : XV c a := by
 obtain ⟨x, hx, y, hy, e1, e2⟩ := h
 exact ⟨y, hy, x, hx, e1.symm, fun e => e2 e.symm⟩
theorem Nw {l : List AN} {e v : Int} (h : Cv l e = some v) : ∃ y ∈ l, y.elem = e /\ y.pos = v := by
 unfold Cv at h
 obtain ⟨y, hy, rfl⟩ := Option.map_eq_some_iff.1 h
 exact ⟨y, List.mem_of_find?_eq_some hy, by simpa using List.find?_some hy, rfl⟩
theorem Q9 {l : List AN} {e : Int} (h : Cv l e = none) : ∀ y ∈ l, y.elem ≠ e := by
 unfold Cv at h
 intro y hy he
 have := List.find?_eq_none.1 (Option.map_eq_none_iff.1 h) y hy
 simp [he] at this
end Go.E
/- Plain Lean: two roads of a plan, each taken first (LockClash). No condition. -/
namespace Go.E
open Go
theorem Zt {k : Nat} (h : k <= 40) : (if (if (40 : Int) < (k : Int) then (40 : Int) else (k : Int)) > 0 then (if (40 : Int) < (k : Int) then (40 : Int) else (k : Int)) else 0) = (k : Int) := by
 rw [if_neg (show ¬ (40 : Int) < (k : Int) by omega)]
 split <;> omega
theorem W8 (p : AH) : ∃ c e, HD p = some (c, e) /\ (e = true -> CT p /\ ∃ n, Cr p n /\ (D3 p).1.length <= 64 /\ c = (D3 p).1.map (FY n)) := by
 unfold HD
 obtain ⟨b0, h1, h2⟩ := VF p
 simp only [h1, Option.bind_some]
 cases b0 with
 | false => exact ⟨[], false, rfl, by simp⟩
 | true =>
  have hv := h2 rfl
  have hc := VM h1
  obtain ⟨n, hN, hn⟩ := Y8 p hv
  obtain ⟨c, e, e1, e2⟩ := WN hv hn hc
  simp only [Bool.not_true, cond_false, e1, Option.bind_some]
  refine ⟨c.roads, (e == 0), rfl, fun h => ?_⟩
  obtain ⟨e3, rfl⟩ := e2 (by simpa using h)
  have hl : (D3 p).1.length <= 64 := by
   unfold D3
   split
   .simp
   simp only; omega
  exact ⟨hv, n, hn, hl, rfl⟩
end Go.E
/- Plain Lean: the owners of a book, whatever the order. No condition. -/
namespace Go.E
open Go
def Nx (b : AV) (o : Int) : Bool := decide (0 < AX ((AX ((((AU b.steps o).getD []).length : Int) + (((AU b.zone o).getD []).length : Int))) + (((AU b.guards o).getD []).length : Int)))
def Zw (b : AV) : List Int := Gv ((b.steps.filter fun p => Nx b p.1).map (·.1))
theorem V2 (b : AV) (hm : b.steps.length < 1000000) : Cz b = some (Zw b) := by
 unfold Cz
 refine Kx (fun s => (s.1 ++ (s.2.filter fun p => Nx b p.1).map (·.1)).Perm ((b.steps.filter fun p => Nx b p.1).map (·.1))) (fun s hs h0 => ?_) (fun s j y hs hy => ?_) (by simp)
 .obtain ⟨a, r⟩ := s
  simp only at h0 hs
  subst h0
  have hp := hs
  simp only [List.filter_nil, List.map_nil, List.append_nil] at hp
  have hlen := hp.length_eq
  have h2 := List.length_filter_le (fun p => Nx b p.1) b.steps
  rw [List.length_map] at hlen
  have e1 : IW a = some (Gv a) := by unfold IW; rw [if_pos (by omega)]
  simp only [EY, e1, Option.bind_some, Option.map_some, OX hp]
  rfl
 obtain ⟨a, r⟩ := s
 simp only at hs hy ⊢
 have hp := IX hy
 have hlen := hs.length_eq
 have h3 := List.length_filter_le (fun p => Nx b p.1) b.steps
 simp only [List.length_append, List.length_map] at hlen
 have hpf := ((hp.filter fun p => Nx b p.1).map (·.1))
 have hh : BM b y.1 = some (Nx b y.1) := rfl
 simp only [E1, hh, Option.bind_some]
 cases he : Nx b y.1 with
 | true =>
  refine .inr ⟨(a ++ [y.1], r.eraseIdx j), ?_, rfl, ?_⟩
  .rw [BK (by simp; omega)]; rfl
  rw [List.filter_cons_of_pos (by simpa using he)] at hpf
  simp only [List.append_assoc, List.singleton_append]
  exact (List.Perm.append_left a hpf).trans hs
 | false =>
  refine .inr ⟨(a, r.eraseIdx j), rfl, rfl, ?_⟩
  rw [List.filter_cons_of_neg (by simp [he])] at hpf
  exact (List.Perm.append_left a hpf).trans hs
end Go.E
/- Plain Lean: whether a road suits a book is answered of every road (right). No condition. -/
namespace Go.E
open Go
structure S2 (r : AQ) : Prop where
 ls : r.steps.length <= 1000
 ln : r.needs.length <= 1000
 lg : r.guards.length <= 1000
 lz : r.zone.length <= 1000
theorem To (b : AV) (r : AQ) (h : S2 r) : ∃ t, Cn b r = some t /\ (t = true -> D0 b.elems r) := by
 have h2 := h.ls; have h3 := h.ln; have h4 := h.lg; have h5 := h.lz
 unfold Cn
 by_cases h0 : (r.steps.length : Int) = 0
 .exact ⟨false, by simp only [h0, beq_self_eq_true, cond_true], by simp⟩
 rw [beq_eq_false_iff_ne.2 h0]
 simp only [cond_false]
 have one4 : ∀ (i : Nat) (l done : List AN) (s : Int × List (Int × Int)), s.1 = (i : Int) -> i <= 2 -> l.length <= 1000 -> (∀ x ∈ done, (0 <= x.elem /\ x.elem < b.elems) /\ (x.pos = 1 \/ x.pos = 2)) -> OJ done -> (∀ x ∈ done, AU s.2 x.elem = some x.pos) -> (∀ k v, AU s.2 k = some v -> ∃ x ∈ done, x.elem = k /\ x.pos = v) ->
   ∃ t, AO (Bw b s l) (0, s.2) = some t /\ (t = .inr false \/ ∃ c', t = .inl (((i + 1 : Nat) : Int), c') /\ (∀ x ∈ done ++ l, (0 <= x.elem /\ x.elem < b.elems) /\ (x.pos = 1 \/ x.pos = 2)) /\ OJ (done ++ l) /\ (∀ x ∈ done ++ l, AU c' x.elem = some x.pos) /\ ∀ k v, AU c' k = some v -> ∃ x ∈ done ++ l, x.elem = k /\ x.pos = v) := by
  intro i l done s hs hi hl hx hc hI hJ
  refine Bz (l := l) (fun j c => (∀ x ∈ done ++ l.take j, (0 <= x.elem /\ x.elem < b.elems) /\ (x.pos = 1 \/ x.pos = 2)) /\ OJ (done ++ l.take j) /\ (∀ x ∈ done ++ l.take j, AU c x.elem = some x.pos) /\ ∀ k v, AU c k = some v -> ∃ x ∈ done ++ l.take j, x.elem = k /\ x.pos = v) (fun c hc' => ?_) (fun j x c hj hc' => ?_) (c := s.2) (by simpa using ⟨hx, hc, hI, hJ⟩)
  .rw [List.take_length] at hc'
   exact ⟨_, by simp only [Bw, B2, cond_false, hs, AT (show i < 1000000000 by omega)], .inr ⟨c, rfl, hc'⟩⟩
  have hjl := Ba hj
  obtain ⟨d1, d2, d3, d4⟩ := hc'
  simp only [Bw, BQ hj, cond_true, AY, hj, Option.bind_some, OK, AT (show j < 1000000000 by omega)]
  by_cases x1 : 0 <= x.elem
  .by_cases x2 : x.elem < b.elems
   .simp only [decide_eq_true x1, decide_eq_true x2, Bool.and_self, Bool.not_true, cond_false]
    by_cases x3 : x.pos = 1 \/ x.pos = 2
    .have hp : ((bif (x.pos != 1) then bif (x.pos != 2) then some true else bif (AU c x.elem).isSome then some (((AU c x.elem).getD 0) != x.pos) else some false else bif (AU c x.elem).isSome then some (((AU c x.elem).getD 0) != x.pos) else some false : Option Bool)) = some ((AU c x.elem).isSome && ((AU c x.elem).getD 0 != x.pos)) := by
      rcases x3 with x3 | x3 <;> simp only [x3] <;> cases (AU c x.elem).isSome <;> rfl
     rw [hp]
     simp only [Option.bind_some]
     cases hq : ((AU c x.elem).isSome && ((AU c x.elem).getD 0 != x.pos)) with
     | true => exact .inl ⟨_, rfl, .inl rfl⟩
     | false =>
      have e1 : l.take (j + 1) = l.take j ++ [x] := by rw [List.take_add_one, hj]; rfl
      have hold : ∀ y ∈ done ++ l.take j, y.elem = x.elem -> y.pos = x.pos := fun y hy he => by
       have := d3 y hy
       rw [he] at this
       rw [this] at hq
       simpa using hq
      have hmem : ∀ y, y ∈ done ++ l.take (j + 1) ↔ y ∈ done ++ l.take j \/ y = x := fun y => by
       rw [e1, <- List.append_assoc, List.mem_append, List.mem_singleton]
      refine .inr ⟨Av x.elem x.pos c, rfl, fun y hy => ?_, fun y hy z hz he => ?_, fun y hy => ?_, fun k v hk => ?_⟩
      .rcases (hmem y).1 hy with hy | rfl
       .exact d1 y hy
       exact ⟨⟨x1, x2⟩, x3⟩
      .rcases (hmem y).1 hy with hy | rfl
       .rcases (hmem z).1 hz with hz | rfl
        .exact d2 y hy z hz he
        exact hold y hy he
       rcases (hmem z).1 hz with hz | rfl
       .exact (hold z hz he.symm).symm
       rfl
      .rw [Cp]
       rcases (hmem y).1 hy with hy | rfl
       .by_cases he : y.elem = x.elem
        .rw [if_pos he, hold y hy he]
        rw [if_neg he]; exact d3 y hy
       rw [if_pos rfl]
      rw [Cp] at hk
      by_cases he : k = x.elem
      .rw [if_pos he] at hk; cases hk
       exact ⟨x, (hmem x).2 (.inr rfl), he.symm, rfl⟩
      rw [if_neg he] at hk
      obtain ⟨y, hy, e2⟩ := d4 k v hk
      exact ⟨y, (hmem y).2 (.inl hy), e2⟩
    have y1 : (x.pos != 1) = true := bne_iff_ne.2 fun h => x3 (.inl h)
    have y2 : (x.pos != 2) = true := bne_iff_ne.2 fun h => x3 (.inr h)
    exact .inl ⟨_, by simp only [y1, y2, cond_true, Option.bind_some], .inl rfl⟩
   exact .inl ⟨_, by simp only [decide_eq_false x2, Bool.and_false, Bool.not_false, cond_true, Option.bind_some], .inl rfl⟩
  exact .inl ⟨_, by simp only [decide_eq_false x1, Bool.false_and, Bool.not_false, cond_true, Option.bind_some], .inl rfl⟩
 have i0 : Ad ([r.needs, r.guards] : List (List AN)) 0 = some r.needs := rfl
 have i1 : Ad ([r.needs, r.guards] : List (List AN)) 1 = some r.guards := rfl
 obtain ⟨t3, l3, p3⟩ : ∃ t, AO (BH b r) (0, []) = some t /\ (t = true -> (∀ x ∈ r.needs ++ r.guards, (0 <= x.elem /\ x.elem < b.elems) /\ (x.pos = 1 \/ x.pos = 2)) /\ OJ (r.needs ++ r.guards)) := by
  obtain ⟨u, e1, d⟩ := one4 0 r.needs [] (0, []) rfl (by omega) h3 (fun x hx => by cases hx) (fun x hx => by cases hx) (fun x hx => by cases hx) (fun k v hk => by simp [AU] at hk)
  have s1 : BH b r (0, []) = some u := by
   simp only [BH, i0, Option.bind_some]; rw [e1]; rfl
  rcases d with rfl | ⟨c1, rfl, d1, d2, d3, d4⟩
  .exact ⟨false, CV s1, by simp⟩
  simp only [List.nil_append] at d1 d2 d3 d4
  obtain ⟨u, e1, d⟩ := one4 1 r.guards r.needs (1, c1) rfl (by omega) h4 d1 d2 d3 d4
  have s2 : BH b r (1, c1) = some u := by
   simp only [BH, i1, Option.bind_some]; rw [e1]; rfl
  rw [CL s1]
  show ∃ t, AO (BH b r) (1, c1) = some t /\ _
  rcases d with rfl | ⟨c2, rfl, d1, d2, -, -⟩
  .exact ⟨false, CV s2, by simp⟩
  rw [CL s2]
  exact ⟨true, CV rfl, fun _ => ⟨d1, d2⟩⟩
 refine Bz (l := r.steps) (fun j c => (∀ e, (AU c e).getD false = decide (e ∈ (r.steps.take j).map (·.elem))) /\ ((r.steps.take j).map (·.elem)).Nodup /\ ∀ s ∈ r.steps.take j, 0 <= s.elem /\ s.elem < b.elems) (fun c hc => ?_) (fun j s c hj hc => ?_) (c := []) ⟨fun e => by simp [AU], by simp, by simp⟩
 .rw [List.take_length] at hc
  obtain ⟨c1, c2, c3⟩ := hc
  obtain ⟨t, ht, hp⟩ : ∃ t, AO (CA b r ((r.steps.length : Int), c)) 0 = some t /\ (t = true -> D0 b.elems r) := by
   refine Bu (l := r.zone) (fun _ e => 0 <= e /\ e < b.elems /\ e ∉ r.steps.map (·.elem)) (fun g => ⟨t3, by simp only [CA, B2, cond_false, l3]; rfl, fun h' => ⟨by omega, h2, h3, h4, h5, c3, c2, fun e he => ?_, (p3 h').1, (p3 h').2⟩⟩) (fun i e he _ => ?_)
   .obtain ⟨i, hi⟩ := List.mem_iff_getElem?.1 he
    exact g i e hi
   have := Ba he
   simp only [CA, BQ he, cond_true, AY, he, Option.bind_some, OK, c1, AT (show i < 1000000000 by omega)]
   by_cases x1 : 0 <= e
   .by_cases x2 : e < b.elems
    .by_cases x3 : e ∈ r.steps.map (·.elem)
     .exact .inl ⟨false, by simp only [decide_eq_true x1, decide_eq_true x2, decide_eq_true x3, Bool.and_self, Bool.not_true, cond_false, Option.bind_some, cond_true], by simp⟩
     exact .inr ⟨by simp only [decide_eq_true x1, decide_eq_true x2, decide_eq_false x3, Bool.and_self, Bool.not_true, cond_false, Option.bind_some], x1, x2, x3⟩
    exact .inl ⟨false, by simp only [decide_eq_false x2, Bool.and_false, Bool.not_false, cond_true, Option.bind_some], by simp⟩
   exact .inl ⟨false, by simp only [decide_eq_false x1, Bool.false_and, Bool.not_false, cond_true, Option.bind_some], by simp⟩
  exact ⟨t, by simp only [CS, B2, cond_false, ht]; rfl, hp⟩
 obtain ⟨c1, c2, c3⟩ := hc
 have := Ba hj
 simp only [CS, BQ hj, cond_true, AY, hj, Option.bind_some, OK, c1, AT (show j < 1000000000 by omega)]
 by_cases x1 : 0 <= s.elem
 .by_cases x2 : s.elem < b.elems
  .by_cases x3 : s.elem ∈ (r.steps.take j).map (·.elem)
   .exact .inl ⟨false, by simp only [decide_eq_true x1, decide_eq_true x2, decide_eq_true x3, Bool.and_self, Bool.not_true, cond_false, Option.bind_some, cond_true], by simp⟩
   refine .inr ⟨Av s.elem true c, by simp only [decide_eq_true x1, decide_eq_true x2, decide_eq_false x3, Bool.and_self, Bool.not_true, cond_false, Option.bind_some], fun e => ?_, ?_, fun q hq => ?_⟩
   .rw [Cp, DC hj]
    by_cases he : e = s.elem
    .simp [he]
    rw [if_neg he, c1]; simp only [List.mem_append, List.mem_singleton, he, or_false]
   .rw [DC hj, List.nodup_append]
    exact ⟨c2, by simp, fun x hx y hy e => by simp at hy; subst hy; subst e; exact x3 hx⟩
   rw [List.take_add_one, hj] at hq
   rcases List.mem_append.1 hq with hq | hq
   .exact c3 q hq
   simp at hq; subst hq; exact ⟨x1, x2⟩
  exact .inl ⟨false, by simp only [decide_eq_false x2, Bool.and_false, Bool.not_false, cond_true, Option.bind_some], by simp⟩
 exact .inl ⟨false, by simp only [decide_eq_false x1, Bool.false_and, Bool.not_false, cond_true, Option.bind_some], by simp⟩
end Go.E
/- Plain Lean: a book as a row of owners with what they hold; Has, Owner, Zones, Held, May, Take on it. No condition. -/
namespace Go.E
open Go
structure B5 where
 st : List Int
 zn : List Int
 nd : List AN
 gd : List AN
def bk (n : Int) (L : List (Int × B5)) : AV := ⟨n, L.map fun p => (p.1, p.2.st), L.map fun p => (p.1, p.2.zn), L.map fun p => (p.1, p.2.nd), L.map fun p => (p.1, p.2.gd)⟩
def FX (r : AQ) : B5 := ⟨r.steps.map (·.elem), r.zone, r.needs, r.guards⟩
structure DX (L : List (Int × B5)) : Prop where
 keys : (L.map (·.1)).Nodup
 pos : ∀ p ∈ L, 0 <= p.1
 len : L.length <= 1000
 small : ∀ p ∈ L, (p.2.st.length <= 1000 /\ p.2.zn.length <= 1000) /\ p.2.nd.length <= 1000 /\ p.2.gd.length <= 1000
 holds : ∀ p ∈ L, 0 < p.2.st.length + p.2.zn.length + p.2.gd.length
 apart : ∀ p ∈ L, ∀ q ∈ L, ∀ e, e ∈ p.2.st -> e ∈ q.2.st -> p.1 = q.1
 zone : ∀ p ∈ L, ∀ q ∈ L, ∀ e, e ∈ p.2.st -> e ∉ q.2.zn
 agree : ∀ p ∈ L, ∀ q ∈ L, ∀ x ∈ p.2.nd ++ p.2.gd, ∀ y ∈ q.2.nd ++ q.2.gd, x.elem = y.elem -> x.pos = y.pos
 posn : ∀ p ∈ L, ∀ x ∈ p.2.nd ++ p.2.gd, x.pos = 1 \/ x.pos = 2
theorem CF {α : Type} {L : List (Int × B5)} (f : B5 -> α) (hk : (L.map (·.1)).Nodup) {p : Int × B5} (hp : p ∈ L) : AU (L.map fun p => (p.1, f p.2)) p.1 = some (f p.2) := by
 induction L with
 | nil => cases hp
 | cons q L ih =>
  simp only [List.map_cons, List.nodup_cons] at hk
  simp only [List.map_cons, AU]
  rcases List.mem_cons.1 hp with rfl | hp
  .simp
  have : ¬ p.1 = q.1 := fun e => hk.1 (e ▸ List.mem_map_of_mem hp)
  rw [if_neg (by simpa using this)]
  exact ih hk.2 hp
theorem Kz {α : Type} {L : List (Int × B5)} (f : B5 -> α) {o : Int} (ho : o ∉ L.map (·.1)) : AU (L.map fun p => (p.1, f p.2)) o = none := by
 induction L with
 | nil => rfl
 | cons q L ih =>
  simp only [List.map_cons, List.mem_cons, not_or] at ho
  simp only [List.map_cons, AU]
  rw [if_neg (by simpa using ho.1)]
  exact ih ho.2
theorem Mp {α : Type} {L : List (Int × B5)} (f : B5 -> α) {o : Int} (v : α) (ho : o ∉ L.map (·.1)) : Av o v (L.map fun p => (p.1, f p.2)) = (L.map fun p => (p.1, f p.2)) ++ [(o, v)] := by
 induction L with
 | nil => rfl
 | cons q L ih =>
  simp only [List.map_cons, List.mem_cons, not_or] at ho
  simp only [List.map_cons, Av, List.cons_append]
  rw [if_neg (by simpa using ho.1), ih ho.2]
variable {n : Int} {L : List (Int × B5)}
theorem P1 (hI : DX L) (o : Int) : BM (bk n L) o = some (decide (o ∈ L.map (·.1))) := by
 unfold BM
 refine congrArg some (decide_eq_decide.2 ?_)
 simp only [bk]
 by_cases ho : o ∈ L.map (·.1)
 .obtain ⟨p, hp, rfl⟩ := List.mem_map.1 ho
  obtain ⟨⟨s1, s2⟩, s3, s4⟩ := hI.small p hp
  have s5 := hI.holds p hp
  rw [CF (·.st) hI.keys hp, CF (·.zn) hI.keys hp, CF (·.gd) hI.keys hp]
  simp only [Option.getD_some]
  rw [CG (n := (p.2.st.length : Int) + (p.2.zn.length : Int)) (by omega) (by omega), CG (n := (p.2.st.length : Int) + (p.2.zn.length : Int) + (p.2.gd.length : Int)) (by omega) (by omega)]
  exact ⟨fun _ => ho, fun _ => by omega⟩
 rw [Kz (·.st) ho, Kz (·.zn) ho, Kz (·.gd) ho]
 exact ⟨fun h => absurd h (by decide), fun h => absurd h ho⟩
def LN (L : List (Int × B5)) (e : Int) : Int := Oy (L.map fun p => (p.1, p.2.st)) e
theorem Xs (hI : DX L) (e : Int) : XS (L.map fun p => (p.1, p.2.st)) e := by
 intro a ha b hb h1 h2
 obtain ⟨p, hp, rfl⟩ := List.mem_map.1 ha
 obtain ⟨q, hq, rfl⟩ := List.mem_map.1 hb
 exact hI.apart p hp q hq e h1 h2
theorem Qe (hI : DX L) (e : Int) : BL (bk n L) e = some (LN L e) := Ma (bk n L) e (Xs hI e) (fun a ha => by
 obtain ⟨p, hp, rfl⟩ := List.mem_map.1 ha
 have := (hI.small p hp).1.1
 simp only; omega)
theorem UG (hI : DX L) {e : Int} {p : Int × B5} (hp : p ∈ L) (he : e ∈ p.2.st) : LN L e = p.1 := Qk (Xs hI e) (q := (p.1, p.2.st)) (List.mem_map.2 ⟨p, hp, rfl⟩) he
theorem YU {e : Int} (h : ∀ p ∈ L, e ∉ p.2.st) : LN L e = -1 := Ql fun a ha => by
 obtain ⟨p, hp, rfl⟩ := List.mem_map.1 ha
 exact h p hp
theorem OG (hI : DX L) (e : Int) : 0 <= LN L e ↔ ∃ p ∈ L, e ∈ p.2.st := by
 constructor
 .intro h
  refine Classical.byContradiction fun hn => ?_
  rw [YU fun p hp he => hn ⟨p, hp, he⟩] at h
  exact absurd h (by decide)
 rintro ⟨p, hp, he⟩
 rw [UG hI hp he]
 exact hI.pos p hp
def I6 (L : List (Int × B5)) (e : Int) : List Int := O1 (L.map fun p => (p.1, p.2.zn)) e
theorem Qf (hI : DX L) (e : Int) : Bt (bk n L) e = some (I6 L e) := Mb (bk n L) e (by have := hI.len; simp [bk]; omega) (fun a ha => by
 obtain ⟨p, hp, rfl⟩ := List.mem_map.1 ha
 have := (hI.small p hp).1.2
 simp only; omega)
theorem UH (e : Int) : 0 < (I6 L e).length ↔ ∃ p ∈ L, e ∈ p.2.zn := by
 unfold I6 O1
 rw [(EO _).length_eq, List.length_map, List.length_pos_iff_exists_mem]
 constructor
 .rintro ⟨a, ha⟩
  obtain ⟨h1, h2⟩ := List.mem_filter.1 ha
  obtain ⟨p, hp, rfl⟩ := List.mem_map.1 h1
  exact ⟨p, hp, by simpa using h2⟩
 rintro ⟨p, hp, he⟩
 exact ⟨(p.1, p.2.zn), List.mem_filter.2 ⟨List.mem_map.2 ⟨p, hp, rfl⟩, by simpa using he⟩⟩
theorem ZM (hI : DX L) {p : Int × B5} (hp : p ∈ L) : Gh (bk n L) p.1 = p.2.nd ++ p.2.gd := by
 unfold Gh
 simp only [bk]
 rw [CF (·.nd) hI.keys hp, CF (·.gd) hI.keys hp]
 rfl
def Mq (L : List (Int × B5)) (e : Int) : Int := (L.filterMap fun p => Cv (p.2.nd ++ p.2.gd) e).headD 0
def S1 (L : List (Int × B5)) (e : Int) : Int := ((L.filterMap fun p => Cv (p.2.nd ++ p.2.gd) e).length : Int)
theorem YV (hI : DX L) (e : Int) : Ca (bk n L) e (bk n L).needs = L.filterMap fun p => Cv (p.2.nd ++ p.2.gd) e := by
 unfold Ca
 show List.filterMap _ (L.map fun p => (p.1, p.2.nd)) = _
 rw [List.filterMap_map]
 have : ∀ M : List (Int × B5), (∀ p ∈ M, p ∈ L) -> M.filterMap ((fun p : Int × List AN => Cv (Gh (bk n L) p.1) e) ∘ fun p => (p.1, p.2.nd)) = M.filterMap fun p => Cv (p.2.nd ++ p.2.gd) e := by
  intro M
  induction M with
  | nil => intro _; rfl
  | cons q M ih =>
   intro h
   simp only [List.filterMap_cons, Function.comp, ZM (n := n) hI (h q (by simp))]
   have := ih fun p hp => h p (List.mem_cons_of_mem _ hp)
   rw [<- this]
 exact this L fun p hp => hp
theorem S3 (hI : DX L) (e : Int) : Bc (bk n L) e = some (Mq L e, S1 L e) := by
 have hh := YV (n := n) hI e
 rw [OE (bk n L) e (by have := hI.len; simp [bk]; omega) (fun a ha => ?_) (fun x hx y hy => ?_), hh]
 .rfl
 .obtain ⟨p, hp, rfl⟩ := List.mem_map.1 ha
  obtain ⟨-, s3, s4⟩ := hI.small p hp
  simp only [bk]
  rw [CF (·.nd) hI.keys hp, CF (·.gd) hI.keys hp]
  simp only [Option.getD_some]; omega
 rw [hh] at hx hy
 obtain ⟨p, hp, h1⟩ := List.mem_filterMap.1 hx
 obtain ⟨q, hq, h2⟩ := List.mem_filterMap.1 hy
 obtain ⟨a, ha, a1, a2⟩ := Nw h1
 obtain ⟨b, hb, b1, b2⟩ := Nw h2
 rw [<- a2, <- b2]
 exact hI.agree p hp q hq a ha b hb (a1.trans b1.symm)
theorem Qd (hI : DX L) {p : Int × B5} (hp : p ∈ L) {x : AN} (hx : x ∈ p.2.nd ++ p.2.gd) : Mq L x.elem = x.pos := by
 unfold Mq
 cases hl : L.filterMap fun p => Cv (p.2.nd ++ p.2.gd) x.elem with
 | nil =>
  cases hf : Cv (p.2.nd ++ p.2.gd) x.elem with
  | none => exact absurd rfl (Q9 hf x hx)
  | some v =>
   have : v ∈ L.filterMap fun p => Cv (p.2.nd ++ p.2.gd) x.elem := List.mem_filterMap.2 ⟨p, hp, hf⟩
   rw [hl] at this; cases this
 | cons v l =>
  have : v ∈ L.filterMap fun p => Cv (p.2.nd ++ p.2.gd) x.elem := by rw [hl]; simp
  obtain ⟨q, hq, h1⟩ := List.mem_filterMap.1 this
  obtain ⟨a, ha, a1, a2⟩ := Nw h1
  simp only [List.headD_cons]
  rw [<- a2]
  exact hI.agree q hq p hp a ha x hx a1
theorem ZA (hI : DX L) (hl : L.length < 1000) (o : Int) (ho : 0 <= o) (r : AQ) (hr : S2 r) :
  ∃ v, BU (bk n L) o r = some v /\ BT (bk n L) o r = some (bk n (if v = 0 then L ++ [(o, FX r)] else L), v) /\ (v = 0 -> DX (L ++ [(o, FX r)]) /\ o ∉ L.map (·.1) /\ D0 n r) := by
 obtain ⟨t, ht, hR⟩ := To (bk n L) r hr
 have arg : BU (bk n L) o r = some 1 -> ∃ v, BU (bk n L) o r = some v /\ BT (bk n L) o r = some (bk n (if v = 0 then L ++ [(o, FX r)] else L), v) /\ (v = 0 -> DX (L ++ [(o, FX r)]) /\ o ∉ L.map (·.1) /\ D0 n r) := fun h =>
  ⟨1, h, by rw [if_neg (by decide)]; exact UL _ _ _ h (by decide), fun h => absurd h (by decide)⟩
 by_cases hm : o ∈ L.map (·.1)
 .refine arg ?_
  unfold BU
  simp only [decide_eq_false (show ¬ o < 0 by omega), cond_false, P1 hI, decide_eq_true hm, Option.bind_some, cond_true]
 cases t with
 | false =>
  refine arg ?_
  unfold BU
  simp only [decide_eq_false (show ¬ o < 0 by omega), cond_false, P1 hI, decide_eq_false hm, Option.bind_some, ht, Bool.not_false, cond_true]
 | true =>
  have hP : D0 n r := hR rfl
  have hmay := TH (bk n L) o r hP ho (by rw [P1 hI, decide_eq_false hm]) (Qe hI) (Qf hI) (fun e => ⟨_, S3 hI e⟩)
  refine ⟨_, hmay, ?_, fun h0 => ?_⟩
  .by_cases h0 : Jp (LN L) (I6 L) (Mq L) r = 0
   .rw [if_pos h0]
    rw [h0] at hmay ⊢
    rw [Oz (bk n L) o r hP hmay]
    simp only [bk, Mp (·.st) _ hm, Mp (·.zn) _ hm, Mp (·.nd) _ hm, Mp (·.gd) _ hm, List.map_append, List.map_cons, List.map_nil, FX]
   rw [if_neg h0]
   exact UL _ _ _ hmay h0
  have noS : ∀ s ∈ r.steps, ¬ (0 <= LN L s.elem) /\ ¬ (0 < (I6 L s.elem).length) := fun s hs => by
   unfold Jp at h0
   split at h0
   .exact absurd h0 (by decide)
   rename_i hc
   have : ¬ ((decide (0 <= LN L s.elem) || decide (0 < ((I6 L s.elem).length : Int))) = true) := fun h => hc (List.any_eq_true.2 ⟨s, hs, h⟩)
   simp only [Bool.or_eq_true, decide_eq_true_eq, not_or] at this
   exact ⟨this.1, by omega⟩
  have noZ : ∀ e ∈ r.zone, ¬ (0 <= LN L e) := fun e he => by
   unfold Jp at h0
   split at h0
   .exact absurd h0 (by decide)
   split at h0
   .exact absurd h0 (by decide)
   rename_i hc
   exact fun h => hc (List.any_eq_true.2 ⟨e, he, by simpa using h⟩)
  have noP : ∀ x ∈ r.needs ++ r.guards, Mq L x.elem = 0 \/ Mq L x.elem = x.pos := fun x hx => by
   unfold Jp at h0
   split at h0
   .exact absurd h0 (by decide)
   split at h0
   .exact absurd h0 (by decide)
   split at h0
   .exact absurd h0 (by decide)
   split at h0
   .exact absurd h0 (by decide)
   rename_i c1 c2
   have : ¬ (((Mq L x.elem != 0) && (Mq L x.elem != x.pos)) = true) := fun h => by
    rcases List.mem_append.1 hx with hx | hx
    .exact c1 (List.any_eq_true.2 ⟨x, hx, h⟩)
    exact c2 (List.any_eq_true.2 ⟨x, hx, h⟩)
   simp only [Bool.and_eq_true, bne_iff_ne, not_and, Decidable.not_not] at this
   by_cases hz : Mq L x.elem = 0
   .exact .inl hz
   exact .inr (this hz)
  have cross : ∀ p ∈ L, ∀ x ∈ p.2.nd ++ p.2.gd, ∀ y ∈ r.needs ++ r.guards, x.elem = y.elem -> x.pos = y.pos := fun p hp x hx y hy he => by
   have h1 := Qd hI hp hx
   have h2 := hI.posn p hp x hx
   have h3 := noP y hy
   rw [<- he, h1] at h3
   omega
  have m : ∀ p, p ∈ L ++ [(o, FX r)] ↔ p ∈ L \/ p = (o, FX r) := fun p => by rw [List.mem_append, List.mem_singleton]
  refine ⟨⟨?_, fun p hp => ?_, by rw [List.length_append]; simp; omega, fun p hp => ?_, fun p hp => ?_, fun p hp q hq e h1 h2 => ?_, fun p hp q hq e h1 h2 => ?_, fun p hp q hq x hx y hy he => ?_, fun p hp x hx => ?_⟩, hm, hP⟩
  .rw [List.map_append, List.nodup_append]
   exact ⟨hI.keys, by simp, fun a ha b hb e => by simp at hb; subst hb; subst e; exact hm ha⟩
  .rcases (m p).1 hp with hp | rfl
   .exact hI.pos p hp
   exact ho
  .rcases (m p).1 hp with hp | rfl
   .exact hI.small p hp
   exact ⟨⟨by simp [FX]; exact hr.ls, hr.lz⟩, hr.ln, hr.lg⟩
  .rcases (m p).1 hp with hp | rfl
   .exact hI.holds p hp
   have := hP.one; simp [FX]; omega
  .rcases (m p).1 hp with hp | rfl
   .rcases (m q).1 hq with hq | rfl
    .exact hI.apart p hp q hq e h1 h2
    obtain ⟨s, hs, rfl⟩ := List.mem_map.1 h2
    exact absurd ((OG hI _).2 ⟨p, hp, h1⟩) (noS s hs).1
   rcases (m q).1 hq with hq | rfl
   .obtain ⟨s, hs, rfl⟩ := List.mem_map.1 h1
    exact absurd ((OG hI _).2 ⟨q, hq, h2⟩) (noS s hs).1
   rfl
  .rcases (m p).1 hp with hp | rfl
   .rcases (m q).1 hq with hq | rfl
    .exact hI.zone p hp q hq e h1 h2
    exact noZ e h2 ((OG hI _).2 ⟨p, hp, h1⟩)
   obtain ⟨s, hs, rfl⟩ := List.mem_map.1 h1
   rcases (m q).1 hq with hq | rfl
   .exact (noS s hs).2 ((UH _).2 ⟨q, hq, h2⟩)
   exact (hP.zone _ h2).2.2 h1
  .rcases (m p).1 hp with hp | rfl
   .rcases (m q).1 hq with hq | rfl
    .exact hI.agree p hp q hq x hx y hy he
    exact cross p hp x hx y hy he
   rcases (m q).1 hq with hq | rfl
   .exact (cross q hq y hy x hx he.symm).symm
   exact hP.cons x hx y hy he
  rcases (m p).1 hp with hp | rfl
  .exact hI.posn p hp x hx
  exact (hP.need x hx).2
end Go.E
/- Plain Lean: Drop and Owners on a row of owners; what is taken and dropped leaves no trace. No condition. -/
namespace Go.E
open Go
variable {n : Int} {L : List (Int × B5)}
theorem VO {o : Int} : ∀ {L : List (Int × B5)}, o ∉ L.map (·.1) -> L.filter (fun p => !(decide (p.1 = o))) = L := fun ho => List.filter_eq_self.2 fun p hp => by
 have : ¬ p.1 = o := fun e => ho (e ▸ List.mem_map_of_mem hp)
 simp [this]
theorem Lz {α : Type} (f : B5 -> α) (o : Int) : ∀ L : List (Int × B5), (L.map (·.1)).Nodup -> Dv o (L.map fun p => (p.1, f p.2)) = (L.filter fun p => !(decide (p.1 = o))).map fun p => (p.1, f p.2)
 | [], _ => rfl
 | q :: L, hk => by
  simp only [List.map_cons, List.nodup_cons] at hk
  have ih := Lz f o L hk.2
  simp only [List.map_cons, Dv]
  by_cases h : o = q.1
  .rw [if_pos (by simpa using h), List.filter_cons_of_neg (by simp [h])]
   rw [VO (h ▸ hk.1)]
  have h' : ¬ q.1 = o := fun e => h e.symm
  rw [if_neg (by simpa using h), List.filter_cons_of_pos (by simp [h']), ih]
  rfl
theorem ZB (hI : DX L) (o : Int) : B4 (bk n L) o = some (bk n (L.filter fun p => !(decide (p.1 = o))), decide (o ∈ L.map (·.1))) := by
 unfold B4
 have hh : BM ⟨(bk n L).elems, (bk n L).steps, (bk n L).zone, (bk n L).needs, (bk n L).guards⟩ o = some (decide (o ∈ L.map (·.1))) := P1 (n := n) hI o
 rw [hh]
 simp only [Option.bind_some]
 by_cases ho : o ∈ L.map (·.1)
 .rw [decide_eq_true ho]
  simp only [Bool.not_true, cond_false, bk, Lz _ _ _ hI.keys]
 rw [decide_eq_false ho]
 have : L.filter (fun p => !(decide (p.1 = o))) = L := List.filter_eq_self.2 fun p hp => by
  have : ¬ p.1 = o := fun e => ho (e ▸ List.mem_map_of_mem hp)
  simp [this]
 rw [this]
 rfl
theorem DX.drop (hI : DX L) (o : Int) : DX (L.filter fun p => !(decide (p.1 = o))) := by
 have m : ∀ p ∈ L.filter (fun p => !(decide (p.1 = o))), p ∈ L := fun p hp => (List.mem_filter.1 hp).1
 refine ⟨?_, fun p hp => hI.pos p (m p hp), Nat.le_trans (List.length_filter_le _ _) hI.len, fun p hp => hI.small p (m p hp), fun p hp => hI.holds p (m p hp), fun p hp q hq => hI.apart p (m p hp) q (m q hq), fun p hp q hq => hI.zone p (m p hp) q (m q hq), fun p hp q hq => hI.agree p (m p hp) q (m q hq), fun p hp => hI.posn p (m p hp)⟩
 exact List.Sublist.nodup (List.Sublist.map _ List.filter_sublist) hI.keys
end Go.E
/- Plain Lean: what is taken and dropped leaves no trace (LockBack). No condition. -/
namespace Go.E
open Go
theorem W9 {p : AH} {n : CJ} (hv : CT p) (hn : Cr p n) {r : AQ} (hr : r ∈ (D3 p).1) : S2 (FY n r) := by
 obtain ⟨s, hs⟩ := O3 hr
 have hl := H4 hs
 have hnd : r.needs.length <= 12 := (Eb hs).2.2.2.2.2.2.2.2
 have hf := (L0 hv hn hl (show r.needs.length <= 1000 by omega)).2
 have hz := hf.zone.len
 have hlg := hf.lg
 exact ⟨by rw [hf.steps]; omega, by rw [hf.needs]; omega, by omega, by omega⟩
end Go.E
/- Plain Lean: Free on a row of owners. No condition. -/
namespace Go.E
open Go
variable {n : Int} {L : List (Int × B5)}
theorem Qc {α : Type} (f : B5 -> α) (v : α) (o : Int) : ∀ {L : List (Int × B5)}, (L.map (·.1)).Nodup -> o ∈ L.map (·.1) -> Av o v (L.map fun p => (p.1, f p.2)) = L.map fun p => (p.1, if p.1 = o then v else f p.2)
 | [], _, h => by cases h
 | q :: L, hk, h => by
  simp only [List.map_cons, List.nodup_cons] at hk
  simp only [List.map_cons, List.mem_cons] at h
  simp only [List.map_cons, Av]
  by_cases e : o = q.1
  .rw [if_pos (by simpa using e), if_pos e.symm, e]
   refine congrArg _ (List.map_congr_left fun p hp => ?_)
   have : ¬ p.1 = q.1 := fun e2 => hk.1 (e2 ▸ List.mem_map_of_mem hp)
   rw [if_neg this]
  rw [if_neg (by simpa using e), if_neg (fun e2 => e e2.symm)]
  rw [Qc f v o hk.2 (h.resolve_left e)]
def EP (e : Int) (b : B5) : B5 := ⟨b.st.filter fun x => !(decide (x = e)), b.zn, b.nd.filter fun x => !(decide (x.elem = e)), b.gd⟩
def IZ (L : List (Int × B5)) (o e : Int) : List (Int × B5) := L.map fun q => if q.1 = o then (q.1, EP e q.2) else q
def Gw (b : B5) : Bool := decide (0 < b.st.length + b.zn.length + b.gd.length)
def Ia (L : List (Int × B5)) (o e : Int) : List (Int × B5) := (IZ L o e).filter fun q => !(decide (q.1 = o)) || Gw q.2
theorem P0 (o e : Int) : (IZ L o e).map (·.1) = L.map (·.1) := by
 unfold IZ
 rw [List.map_map]
 refine List.map_congr_left fun q _ => ?_
 simp only [Function.comp]
 split <;> rfl
theorem Y9 (hk : (L.map (·.1)).Nodup) {p : Int × B5} (hp : p ∈ L) (s1 : p.2.st.length <= 1000) (s2 : p.2.zn.length <= 1000) (s3 : p.2.gd.length <= 1000) : BM (bk n L) p.1 = some (Gw p.2) := by
 unfold BM
 refine congrArg some (decide_eq_decide.2 ?_)
 simp only [bk]
 rw [CF (·.st) hk hp, CF (·.zn) hk hp, CF (·.gd) hk hp]
 simp only [Option.getD_some]
 rw [CG (n := (p.2.st.length : Int) + (p.2.zn.length : Int)) (by omega) (by omega), CG (n := (p.2.st.length : Int) + (p.2.zn.length : Int) + (p.2.gd.length : Int)) (by omega) (by omega)]
 omega
theorem Sz (l : List Int) (hl : l.length < 1000000) (x : Int) : ∃ t, Cc l x = some t /\ ((t = -1 /\ x ∉ l) \/ (0 <= t /\ x ∈ l /\ Ad l t = some x)) := by
 unfold Cc
 obtain ⟨t, h1, h2⟩ := J4 (l := l) (f := fun a => x == a) hl (step := B7 l x) (by simp [B7]) (fun i a ha => by
  have := Ba ha
  simp only [B7, BQ ha, cond_true, AY, ha, Option.bind_some, AT (show i < 1000000000 by omega)]
  cases hb : (x == a) <;> simp)
 refine ⟨t, h1, ?_⟩
 rcases h2 with ⟨rfl, h2⟩ | ⟨a, h0, h2, h3⟩
 .exact .inl ⟨rfl, fun h => by have := List.find?_eq_none.1 h2 x h; simp at this⟩
 have hm := List.mem_of_find?_eq_some h2
 have he := List.find?_some h2
 simp only [beq_iff_eq] at he
 subst he
 exact .inr ⟨h0, hm, h3⟩
theorem U5 {l : List Int} (hn : l.Nodup) {i : Nat} {x : Int} (h : l[i]? = some x) : l.take i ++ l.drop (i + 1) = l.filter fun y => !(decide (y = x)) := by
 induction l generalizing i with
 | nil => simp at h
 | cons a l ih =>
  rw [List.nodup_cons] at hn
  cases i with
  | zero =>
   simp at h; subst h
   rw [List.filter_cons_of_neg (by simp)]
   simp only [List.take_zero, List.nil_append, List.drop_succ_cons, List.drop_zero, Nat.zero_add]
   symm
   exact List.filter_eq_self.2 fun y hy => by
    have : ¬ y = a := fun e => hn.1 (e ▸ hy)
    simp [this]
  | succ i =>
   simp at h
   have hm : x ∈ l := List.mem_of_getElem? h
   have : ¬ a = x := fun e => hn.1 (e ▸ hm)
   rw [List.filter_cons_of_pos (by simp [this])]
   simp only [List.take_succ_cons, List.cons_append, List.drop_succ_cons]
   rw [ih hn.2 h]
theorem UF (hI : DX L) {o e : Int} (h : ∀ p ∈ L, p.1 = o -> e ∉ p.2.st) : Bj (bk n L) o e = some (bk n L, false) := by
 have key : (AU (bk n L).steps o).getD [] = [] \/ ∃ p ∈ L, p.1 = o /\ (AU (bk n L).steps o).getD [] = p.2.st := by
  by_cases ho : o ∈ L.map (·.1)
  .obtain ⟨p, hp, rfl⟩ := List.mem_map.1 ho
   exact .inr ⟨p, hp, rfl, by simp only [bk]; rw [CF (·.st) hI.keys hp]; rfl⟩
  exact .inl (by simp only [bk]; rw [Kz (·.st) ho]; rfl)
 have h2 : e ∉ (AU (bk n L).steps o).getD [] /\ ((AU (bk n L).steps o).getD []).length < 1000000 := by
  rcases key with h' | ⟨p, hp, h1, h'⟩
  .rw [h']; simp
  rw [h']; exact ⟨h p hp h1, by have := (hI.small p hp).1.1; omega⟩
 obtain ⟨t, t1, t2⟩ := Sz _ h2.2 e
 unfold Bj
 rw [t1]
 rcases t2 with ⟨rfl, -⟩ | ⟨-, h3, -⟩
 .rfl
 exact absurd h3 h2.1
theorem U6 (b : AV) (o e : Int) (ys : List Int) (l : List AN) (hl : (AU b.needs o).getD [] = l) (hn : l.length <= 1000) : AO (B6 b o e ys) (0, ([] : List AN)) =
  AO (B6 b o e ys) ((l.length : Int), l.filter fun x => !(decide (x.elem = e))) := by
 have key : ∀ i, i <= l.length -> AO (B6 b o e ys) (0, ([] : List AN)) = AO (B6 b o e ys) ((i : Int), (l.take i).filter fun x => !(decide (x.elem = e))) := by
  intro i
  induction i with
  | zero => intro _; rfl
  | succ i ih =>
   intro hi
   have hlt : i < l.length := by omega
   have ha : l[i]? = some l[i] := List.getElem?_eq_getElem hlt
   rw [ih (by omega)]
   refine CL ?_
   have hb := List.length_filter_le (fun x : AN => !(decide (x.elem = e))) (l.take i)
   rw [List.length_take] at hb
   rw [List.take_add_one, ha, Option.toList_some, List.filter_append]
   simp only [B6, hl, BQ ha, cond_true, AY, ha, Option.bind_some, LM]
   by_cases c : l[i].elem = e
   .rw [if_pos c, List.filter_cons_of_neg (by simp [c])]
    simp only [Option.bind_some, List.filter_nil, List.append_nil, AT (show i < 1000000000 by omega)]
   rw [if_neg c, List.filter_cons_of_pos (by simp [c]), BK (by simp; omega)]
   simp only [Option.bind_some, List.filter_nil, AT (show i < 1000000000 by omega)]
 have := key l.length (Nat.le_refl _)
 rw [List.take_length] at this
 exact this
theorem W3 (hI : DX L) {p : Int × B5} (hp : p ∈ L) (hs : p.2.st.Nodup) {e : Int} (he : e ∈ p.2.st) : Bj (bk n L) p.1 e = some (bk n (Ia L p.1 e), true) := by
 obtain ⟨⟨s1, s2⟩, s3, s4⟩ := hI.small p hp
 have hm : p.1 ∈ L.map (·.1) := List.mem_map_of_mem hp
 have e1 : (AU (bk n L).steps p.1).getD [] = p.2.st := by simp only [bk]; rw [CF (·.st) hI.keys hp]; rfl
 have e2 : (AU (bk n L).needs p.1).getD [] = p.2.nd := by simp only [bk]; rw [CF (·.nd) hI.keys hp]; rfl
 obtain ⟨t, t1, t2⟩ := Sz p.2.st (by omega) e
 rcases t2 with ⟨-, t2⟩ | ⟨t0, -, t2⟩
 .exact absurd he t2
 obtain ⟨i, rfl⟩ := Int.eq_ofNat_of_zero_le t0
 have hi : i < p.2.st.length := (List.getElem?_eq_some_iff.1 t2).1
 have c1 : Bx p.2.st = some p.2.st := Dg _ (by omega)
 have c2 : Sa p.2.st (i : Int) (AX ((i : Int) + 1)) = some (p.2.st.filter fun y => !(decide (y = e))) := by
  rw [AT (by omega), <- U5 hs t2]
  unfold Sa
  rw [if_pos (by omega)]
  rfl
 unfold Bj
 simp only [e1, t1, Option.bind_some, decide_eq_false (show ¬ ((i : Int) < 0) by omega), cond_false, c1, c2]
 rw [U6 _ _ _ _ p.2.nd e2 s3]
 have hbk : (⟨(bk n L).elems, Av p.1 (p.2.st.filter fun y => !(decide (y = e))) (bk n L).steps, (bk n L).zone, Av p.1 (p.2.nd.filter fun x => !(decide (x.elem = e))) (bk n L).needs, (bk n L).guards⟩ : AV) = bk n (IZ L p.1 e) := by
  simp only [bk, Qc (·.st) _ _ hI.keys hm, Qc (·.nd) _ _ hI.keys hm, IZ, List.map_map]
  have same : ∀ q ∈ L, q.1 = p.1 -> q = p := fun q hq h1 => by
   have a1 := CF (fun b => b) hI.keys hq
   have a2 := CF (fun b => b) hI.keys hp
   rw [h1, a2] at a1
   exact Prod.ext h1 (Option.some.inj a1).symm
  congr 1 <;> refine List.map_congr_left fun q hq => ?_
  .by_cases c : q.1 = p.1
   .simp [Function.comp, c, EP, same q hq c]
   simp [Function.comp, c]
  .by_cases c : q.1 = p.1 <;> simp [Function.comp, c, EP]
  .by_cases c : q.1 = p.1
   .simp [Function.comp, c, EP, same q hq c]
   simp [Function.comp, c]
  by_cases c : q.1 = p.1 <;> simp [Function.comp, c, EP]
 have hk2 : ((IZ L p.1 e).map (·.1)).Nodup := by rw [P0]; exact hI.keys
 have hp2 : (p.1, EP e p.2) ∈ IZ L p.1 e := List.mem_map.2 ⟨p, hp, by simp⟩
 have hh := Y9 (n := n) hk2 hp2 (Nat.le_trans (List.length_filter_le _ _) s1) s2 s4
 have hb2 : (B6 (bk n L) p.1 e (p.2.st.filter fun y => !(decide (y = e)))) ((p.2.nd.length : Int), p.2.nd.filter fun x => !(decide (x.elem = e))) = some (.inr (bk n (Ia L p.1 e), true)) := by
  simp only [B6, e2, B2, cond_false, hbk]
  simp only at hh
  rw [hh]
  simp only [Option.bind_some]
  cases hl : Gw (EP e p.2) with
  | true =>
   simp only [Bool.not_true, cond_false, Option.bind_some, Option.map_some]
   have : Ia L p.1 e = IZ L p.1 e := List.filter_eq_self.2 fun q hq => by
    obtain ⟨q0, h0, rfl⟩ := List.mem_map.1 hq
    by_cases c : q0.1 = p.1
    .have : q0 = p := by
      have a1 := CF (fun b => b) hI.keys h0
      have a2 := CF (fun b => b) hI.keys hp
      rw [c, a2] at a1
      exact Prod.ext c (Option.some.inj a1).symm
     subst this
     simp [hl]
    simp [c]
   rw [this, <- hbk]
  | false =>
   simp only [Bool.not_false, cond_true, Option.bind_some, Option.map_some]
   have hf : Ia L p.1 e = (IZ L p.1 e).filter fun q => !(decide (q.1 = p.1)) := by
    unfold Ia
    refine List.filter_congr fun q hq => ?_
    obtain ⟨q0, h0, rfl⟩ := List.mem_map.1 hq
    by_cases c : q0.1 = p.1
    .have : q0 = p := by
      have a1 := CF (fun b => b) hI.keys h0
      have a2 := CF (fun b => b) hI.keys hp
      rw [c, a2] at a1
      exact Prod.ext c (Option.some.inj a1).symm
     subst this
     simp [hl]
    simp [c]
   rw [hf]
   refine congrArg some (congrArg Sum.inr (congrArg (·, true) ?_))
   have d1 := Lz (·.st) p.1 _ hk2
   have d2 := Lz (·.zn) p.1 _ hk2
   have d3 := Lz (·.nd) p.1 _ hk2
   have d4 := Lz (·.gd) p.1 _ hk2
   have h1 := congrArg AV.steps hbk
   have h2 := congrArg AV.zone hbk
   have h3 := congrArg AV.needs hbk
   have h4 := congrArg AV.guards hbk
   simp only at h1 h2 h3 h4
   rw [h1, h2, h3, h4]
   simp only [bk] at *
   rw [d1, d2, d3, d4]
 exact CV hb2
structure W4 (M L : List (Int × B5)) : Prop where
 keys : (M.map (·.1)).Nodup
 len : M.length <= L.length
 ofs : ∀ q ∈ M, ∃ p ∈ L, q.1 = p.1 /\ (∀ x ∈ q.2.st, x ∈ p.2.st) /\ q.2.zn = p.2.zn /\ (∀ x ∈ q.2.nd, x ∈ p.2.nd) /\ q.2.gd = p.2.gd /\ q.2.st.length <= p.2.st.length /\ q.2.nd.length <= p.2.nd.length /\ 0 < q.2.st.length + q.2.zn.length + q.2.gd.length
theorem W4.inv {M : List (Int × B5)} (h : W4 M L) (hI : DX L) : DX M := by
 have nn : ∀ {q p : Int × B5}, (∀ x ∈ q.2.nd, x ∈ p.2.nd) -> q.2.gd = p.2.gd -> ∀ x ∈ q.2.nd ++ q.2.gd, x ∈ p.2.nd ++ p.2.gd := fun h1 h2 x hx => by
  rcases List.mem_append.1 hx with hx | hx
  .exact List.mem_append.2 (.inl (h1 x hx))
  exact List.mem_append.2 (.inr (h2 ▸ hx))
 refine ⟨h.keys, fun q hq => ?_, Nat.le_trans h.len hI.len, fun q hq => ?_, fun q hq => ?_, fun q hq q' hq' e h1 h2 => ?_, fun q hq q' hq' e h1 h2 => ?_, fun q hq q' hq' x hx y hy he => ?_, fun q hq x hx => ?_⟩
 .obtain ⟨p, hp, k1, -⟩ := h.ofs q hq; rw [k1]; exact hI.pos p hp
 .obtain ⟨p, hp, k1, k2, k3, k4, k5, k6, k7, k8⟩ := h.ofs q hq
  obtain ⟨⟨s1, s2⟩, s3, s4⟩ := hI.small p hp
  rw [k3, k5]; exact ⟨⟨by omega, s2⟩, by omega, s4⟩
 .obtain ⟨p, hp, k1, k2, k3, k4, k5, k6, k7, k8⟩ := h.ofs q hq; exact k8
 .obtain ⟨p, hp, k1, k2, -⟩ := h.ofs q hq
  obtain ⟨p', hp', k1', k2', -⟩ := h.ofs q' hq'
  rw [k1, k1']; exact hI.apart p hp p' hp' e (k2 e h1) (k2' e h2)
 .obtain ⟨p, hp, k1, k2, -⟩ := h.ofs q hq
  obtain ⟨p', hp', k1', k2', k3', -⟩ := h.ofs q' hq'
  rw [k3'] at h2; exact hI.zone p hp p' hp' e (k2 e h1) h2
 .obtain ⟨p, hp, k1, k2, k3, k4, k5, -⟩ := h.ofs q hq
  obtain ⟨p', hp', k1', k2', k3', k4', k5', -⟩ := h.ofs q' hq'
  exact hI.agree p hp p' hp' x (nn k4 k5 x hx) y (nn k4' k5' y hy) he
 obtain ⟨p, hp, k1, k2, k3, k4, k5, -⟩ := h.ofs q hq
 exact hI.posn p hp x (nn k4 k5 x hx)
theorem H3 {o e : Int} {q : Int × B5} : q ∈ Ia L o e ↔ (q ∈ L /\ q.1 ≠ o) \/ (q.1 = o /\ Gw q.2 = true /\ ∃ b, (o, b) ∈ L /\ q.2 = EP e b) := by
 unfold Ia IZ
 rw [List.mem_filter, List.mem_map]
 constructor
 .rintro ⟨⟨p, hp, rfl⟩, h⟩
  by_cases c : p.1 = o
  .simp only [c, if_true, decide_true, Bool.not_true, Bool.false_or] at h ⊢
   exact .inr ⟨trivial, h, p.2, by rw [<- c]; exact hp, rfl⟩
  simp only [c, if_false]
  exact .inl ⟨hp, c⟩
 rintro (⟨h1, h2⟩ | ⟨h1, h2, b, h3, h4⟩)
 .exact ⟨⟨q, h1, by simp [h2]⟩, by simp [h2]⟩
 refine ⟨⟨(o, b), h3, ?_⟩, by simp [h2]⟩
 simp only [if_true]
 exact Prod.ext h1.symm h4.symm
theorem Q8 (hI : DX L) (o e : Int) : W4 (Ia L o e) L := by
 refine ⟨?_, ?_, fun q hq => ?_⟩
 .have := hI.keys
  rw [<- P0 (L := L) o e] at this
  exact List.Sublist.nodup (List.Sublist.map _ List.filter_sublist) this
 .refine Nat.le_trans (List.length_filter_le _ _) ?_
  unfold IZ; simp
 rcases H3.1 hq with ⟨h1, -⟩ | ⟨h1, h2, b, h3, h4⟩
 .exact ⟨q, h1, rfl, fun _ h => h, rfl, fun _ h => h, rfl, Nat.le_refl _, Nat.le_refl _, hI.holds q h1⟩
 refine ⟨(o, b), h3, h1, ?_⟩
 unfold Gw at h2
 rw [h4] at h2 ⊢
 exact ⟨fun x hx => (List.mem_filter.1 hx).1, rfl, fun x hx => (List.mem_filter.1 hx).1, rfl, List.length_filter_le _ _, List.length_filter_le _ _, of_decide_eq_true h2⟩
end Go.E
/- Plain Lean: whatever is taken, freed and dropped, what is locked is locked for one alone (LockApart). No condition. -/
namespace Go.E
open Go
structure D7 (l : List AQ) (held : List Bool) (left : List (List Int)) (L : List (Int × B5)) : Prop where
 inv : DX L
 once : ∀ p ∈ L, p.2.st.Nodup
 hl : held.length = l.length
 ll : left.length = l.length
 own : ∀ p ∈ L, ∃ i : Nat, p.1 = (i : Int) /\ i < l.length
 is : ∀ (i : Nat) b, held[i]? = some b -> b = decide ((i : Int) ∈ L.map (·.1))
 no : ∀ (i : Nat) v, left[i]? = some v -> (i : Int) ∉ L.map (·.1) -> v = []
 at_ : ∀ (i : Nat) v r b, left[i]? = some v -> l[i]? = some r -> ((i : Int), b) ∈ L -> v = b.st /\ b.zn = r.zone /\ b.gd = r.guards /\ ∀ x ∈ r.needs, x.elem ∈ b.st -> x ∈ b.nd
variable {n : Int} {l : List AQ} {held : List Bool} {left : List (List Int)} {L : List (Int × B5)}
theorem W5 (e : Int) {p : Int × B5} (hp : p ∈ L) (he : e ∈ p.2.zn) : p.1 ∈ I6 L e := by
 unfold I6 O1
 refine (EO _).mem_iff.2 (List.mem_map.2 ⟨(p.1, p.2.zn), List.mem_filter.2 ⟨List.mem_map.2 ⟨p, hp, rfl⟩, by simpa using he⟩, rfl⟩)
theorem W6 (hI : DX L) (e : Int) : (I6 L e).length < 1000000 := by
 unfold I6 O1
 rw [(EO _).length_eq, List.length_map]
 have h3 := List.length_filter_le (fun p : Int × List Int => decide (e ∈ p.2)) (L.map fun p => (p.1, p.2.zn))
 rw [List.length_map] at h3
 have := hI.len
 omega
theorem S0 {p : Int × B5} (hp : p ∈ L) {x : AN} (hx : x ∈ p.2.nd ++ p.2.gd) : 1 <= S1 L x.elem := by
 unfold S1
 cases hf : Cv (p.2.nd ++ p.2.gd) x.elem with
 | none => exact absurd rfl (Q9 hf x hx)
 | some v =>
  have : v ∈ L.filterMap fun p => Cv (p.2.nd ++ p.2.gd) x.elem := List.mem_filterMap.2 ⟨p, hp, hf⟩
  have := List.length_pos_of_mem this
  omega
theorem W7 (h : D7 l held left L) (hr : ∀ r ∈ l, S2 r) (hlen : l.length <= 64) : EX (bk n L) l held left = some true := by
 have hI := h.inv
 unfold EX
 refine KA (l := l) (by simp only [Gu, B2, cond_false]) fun i r hi => ?_
 have hlt := Ba hi
 obtain ⟨b, hb⟩ : ∃ b, held[i]? = some b := ⟨_, List.getElem?_eq_getElem (by rw [h.hl]; exact hlt)⟩
 obtain ⟨v, hv⟩ : ∃ v, left[i]? = some v := ⟨_, List.getElem?_eq_getElem (by rw [h.ll]; exact hlt)⟩
 obtain ⟨r1, r2, r3, r4⟩ := hr r (List.mem_of_getElem? hi)
 have hvl : v.length <= 1000 := by
  by_cases c : (i : Int) ∈ L.map (·.1)
  .obtain ⟨p, hp, he⟩ := List.mem_map.1 c
   have hp' : ((i : Int), p.2) ∈ L := by rw [<- he]; exact hp
   obtain ⟨k1, -⟩ := h.at_ i v r p.2 hv hi hp'
   rw [k1]; exact (hI.small p hp).1.1
  rw [h.no i v hv c]; simp
 have l2 : AO (E4 (bk n L) l held left (i : Int)) 0 = some (.inl ()) := by
  refine KA (l := v) ?_ fun k e hk => ?_
  .simp only [E4, AY, hv, Option.bind_some, B2, cond_false, hb]
   cases hbv : b with
   | false => rfl
   | true =>
    simp only [Bool.not_true, cond_false]
    rw [hbv] at hb
    have hin : (i : Int) ∈ L.map (·.1) := of_decide_eq_true (h.is i true hb).symm
    obtain ⟨p, hp, he⟩ := List.mem_map.1 hin
    have hp' : ((i : Int), p.2) ∈ L := by rw [<- he]; exact hp
    obtain ⟨k1, k2, k3, k4⟩ := h.at_ i v r p.2 hv hi hp'
    refine congrArg (Option.map Sum.inr) (a₂ := some (Sum.inl ())) ?_
    have l5 : AO (E2 (bk n L) l left (i : Int)) 0 = some (.inl ()) := by
     refine KA (l := r.needs) (by simp only [E2, AY, hi, Option.bind_some, B2, cond_false]) fun k x hk => ?_
     have := Ba hk
     simp only [E2, AY, hi, Option.bind_some, BQ hk, cond_true, hk, S3 hI, hv, Md v (by omega), AT (show k < 1000000000 by omega)]
     by_cases c : x.elem ∈ v
     .have hx : x ∈ p.2.nd ++ p.2.gd := List.mem_append.2 (.inl (k4 x (List.mem_of_getElem? hk) (k1 ▸ c)))
      have c1 := Qd hI hp hx
      have c2 := S0 hp hx
      simp only [decide_eq_true c, cond_true, c1, bne_self_eq_false, cond_false, decide_eq_false (show ¬ S1 L x.elem < 1 by omega), Option.bind_some]
     simp only [decide_eq_false c, cond_false, Option.bind_some]
    have l4 : AO (E3 (bk n L) l left (i : Int)) 0 = some (.inl ()) := by
     refine KA (l := r.guards) (by simp only [E3, AY, hi, Option.bind_some, B2, cond_false, l5]; rfl) fun k x hk => ?_
     have := Ba hk
     have hx : x ∈ p.2.nd ++ p.2.gd := List.mem_append.2 (.inr (by rw [k3]; exact List.mem_of_getElem? hk))
     have c1 := Qd hI hp hx
     have c2 := S0 hp hx
     simp only [E3, AY, hi, Option.bind_some, BQ hk, cond_true, hk, S3 hI, AT (show k < 1000000000 by omega), c1, bne_self_eq_false, cond_false, decide_eq_false (show ¬ S1 L x.elem < 1 by omega)]
    refine KA (l := r.zone) (by simp only [Gt, AY, hi, Option.bind_some, B2, cond_false, l4]; rfl) fun k e hk => ?_
    have := Ba hk
    have hz : e ∈ p.2.zn := by rw [k2]; exact List.mem_of_getElem? hk
    have c1 : ¬ (0 <= LN L e) := fun hc => by
     obtain ⟨q, hq, hqe⟩ := (OG hI e).1 hc
     exact hI.zone q hq p hp e hqe hz
    have c2 : (i : Int) ∈ I6 L e := by rw [<- he]; exact W5 e hp hz
    simp only [Gt, AY, hi, Option.bind_some, BQ hk, cond_true, hk, Qe hI, Qf hI, decide_eq_false c1, cond_false, Md _ (W6 hI e), decide_eq_true c2, Bool.not_true, AT (show k < 1000000000 by omega)]
  have := Ba hk
  have hin : (i : Int) ∈ L.map (·.1) := Classical.byContradiction fun c => by
   have := h.no i v hv c
   subst this
   simp at hk
  obtain ⟨p, hp, he⟩ := List.mem_map.1 hin
  have hp' : ((i : Int), p.2) ∈ L := by rw [<- he]; exact hp
  obtain ⟨k1, -⟩ := h.at_ i v r p.2 hv hi hp'
  have hs : e ∈ p.2.st := by rw [<- k1]; exact List.mem_of_getElem? hk
  have c1 : LN L e = (i : Int) := by rw [UG hI hp hs, he]
  have c2 : ¬ (0 < (I6 L e).length) := fun hc => by
   obtain ⟨q, hq, hqe⟩ := (UH e).1 hc
   exact hI.zone p hp q hq e hs hqe
  simp only [E4, AY, hv, Option.bind_some, BQ hk, cond_true, hk, Qe hI, Qf hI, c1, bne_self_eq_false, cond_false, decide_eq_false (show ¬ (0 < ((I6 L e).length : Int)) by omega), AT (show k < 1000000000 by omega)]
 have hhas := P1 (n := n) hI (i : Int)
 simp only [Gu, BQ hi, cond_true, hhas, Option.bind_some, AY, hb, h.is i b hb, beq_self_eq_true, Bool.not_true, cond_false, AT (show i < 1000000000 by omega)]
 rw [l2]
 rfl
theorem U7 (l : List Int) (hl : l.length <= 1000) (e : Int) : Fm l e = some (l.filter fun y => !(decide (y = e))) := by
 unfold Fm
 have key : ∀ i, i <= l.length -> AO (DO l e) (0, ([] : List Int)) = AO (DO l e) ((i : Int), (l.take i).filter fun y => !(decide (y = e))) := by
  intro i
  induction i with
  | zero => intro _; rfl
  | succ i ih =>
   intro hi
   have hlt : i < l.length := by omega
   have ha : l[i]? = some l[i] := List.getElem?_eq_getElem hlt
   rw [ih (by omega)]
   refine CL ?_
   have hb := List.length_filter_le (fun y : Int => !(decide (y = e))) (l.take i)
   rw [List.length_take] at hb
   rw [List.take_add_one, ha, Option.toList_some, List.filter_append]
   simp only [DO, BQ ha, cond_true, AY, ha, Option.bind_some, LM]
   by_cases c : l[i] = e
   .rw [if_pos c, List.filter_cons_of_neg (by simp [c])]
    simp only [Option.bind_some, List.filter_nil, List.append_nil, AT (show i < 1000000000 by omega)]
   rw [if_neg c, List.filter_cons_of_pos (by simp [c]), BK (by simp; omega)]
   simp only [Option.bind_some, List.filter_nil, AT (show i < 1000000000 by omega)]
 have := key l.length (Nat.le_refl _)
 rw [List.take_length] at this
 rw [this]
 exact CV (by simp only [DO, B2, cond_false])
theorem S4 {i : Int} {b : B5} (hI : DX L) {p : Int × B5} (hp : p ∈ L) (hb : (i, b) ∈ L) (h : p.1 = i) : p.2 = b := by
 have a1 := CF (fun b => b) hI.keys hp
 have a2 := CF (fun b => b) hI.keys hb
 simp only at a2
 rw [h, a2] at a1
 exact (Option.some.inj a1).symm
theorem D7.took (h : D7 l held left L) {j : Nat} {r : AQ} (hj : l[j]? = some r) (hI : DX (L ++ [((j : Int), FX r)])) (hn : (j : Int) ∉ L.map (·.1)) (hR : (r.steps.map (·.elem)).Nodup) :
  D7 l (Bq held (j : Int) true) (Bq left (j : Int) (r.steps.map (·.elem))) (L ++ [((j : Int), FX r)]) := by
 have m : ∀ p, p ∈ L ++ [((j : Int), FX r)] ↔ p ∈ L \/ p = ((j : Int), FX r) := fun p => by rw [List.mem_append, List.mem_singleton]
 have mk : ∀ i : Nat, ((i : Int) ∈ (L ++ [((j : Int), FX r)]).map (·.1)) ↔ (i : Int) ∈ L.map (·.1) \/ i = j := fun i => by
  rw [List.map_append, List.mem_append]
  simp only [List.map_cons, List.map_nil, List.mem_singleton]
  exact or_congr Iff.rfl ⟨fun e => by omega, fun e => by omega⟩
 refine ⟨hI, fun p hp => ?_, by simp [Bq, h.hl], by simp [Bq, h.ll], fun p hp => ?_, fun i b hb => ?_, fun i v hv hnin => ?_, fun i v r' b hv hr' hb => ?_⟩
 .rcases (m p).1 hp with hp | rfl
  .exact h.once p hp
  exact hR
 .rcases (m p).1 hp with hp | rfl
  .exact h.own p hp
  exact ⟨j, rfl, Ba hj⟩
 .simp only [Bq, Int.toNat_natCast, List.getElem?_set] at hb
  by_cases c : j = i
  .subst c
   rw [if_pos rfl] at hb
   split at hb
   .cases hb; symm; exact decide_eq_true ((mk _).2 (.inr rfl))
   cases hb
  rw [if_neg c] at hb
  rw [h.is i b hb]
  refine decide_eq_decide.2 ?_
  rw [mk]
  exact ⟨.inl, fun h => h.resolve_right fun e => c e.symm⟩
 .rw [mk] at hnin
  simp only [Bq, Int.toNat_natCast, List.getElem?_set] at hv
  rw [if_neg fun e => hnin (.inr e.symm)] at hv
  exact h.no i v hv fun e => hnin (.inl e)
 simp only [Bq, Int.toNat_natCast, List.getElem?_set] at hv
 by_cases c : j = i
 .subst c
  rw [if_pos rfl] at hv
  rw [hj] at hr'; cases hr'
  have hbr : b = FX r := by
   rcases (m _).1 hb with hb | hb
   .exact absurd (List.mem_map.2 ⟨_, hb, rfl⟩) hn
   exact (Prod.mk.inj hb).2
  split at hv
  .cases hv
   subst hbr
   exact ⟨rfl, rfl, rfl, fun x hx _ => hx⟩
  cases hv
 rw [if_neg c] at hv
 rcases (m _).1 hb with hb | hb
 .exact h.at_ i v r' b hv hr' hb
 have := (Prod.mk.inj hb).1
 exact absurd (by omega : j = i) c
theorem D7.dropped (h : D7 l held left L) {j : Nat} : D7 l (Bq held (j : Int) false) (Bq left (j : Int) []) (L.filter fun p => !(decide (p.1 = (j : Int)))) := by
 have m : ∀ p, p ∈ L.filter (fun p => !(decide (p.1 = (j : Int)))) ↔ p ∈ L /\ p.1 ≠ (j : Int) := fun p => by rw [List.mem_filter]; simp
 have mk : ∀ i : Nat, ((i : Int) ∈ (L.filter fun p => !(decide (p.1 = (j : Int)))).map (·.1)) ↔ (i : Int) ∈ L.map (·.1) /\ i ≠ j := fun i => by
  rw [List.mem_map, List.mem_map]
  constructor
  .rintro ⟨p, hp, he⟩
   obtain ⟨h1, h2⟩ := (m p).1 hp
   exact ⟨⟨p, h1, he⟩, by omega⟩
  rintro ⟨⟨p, hp, he⟩, hne⟩
  exact ⟨p, (m p).2 ⟨hp, by omega⟩, he⟩
 refine ⟨h.inv.drop _, fun p hp => h.once p ((m p).1 hp).1, by simp [Bq, h.hl], by simp [Bq, h.ll], fun p hp => h.own p ((m p).1 hp).1, fun i b hb => ?_, fun i v hv hnin => ?_, fun i v r' b hv hr' hb => ?_⟩
 .simp only [Bq, Int.toNat_natCast, List.getElem?_set] at hb
  by_cases c : j = i
  .subst c
   rw [if_pos rfl] at hb
   split at hb
   .cases hb; symm; exact decide_eq_false fun e => ((mk _).1 e).2 rfl
   cases hb
  rw [if_neg c] at hb
  rw [h.is i b hb]
  refine decide_eq_decide.2 ?_
  rw [mk]
  exact ⟨fun e => ⟨e, fun e2 => c e2.symm⟩, fun e => e.1⟩
 .rw [mk] at hnin
  simp only [Bq, Int.toNat_natCast, List.getElem?_set] at hv
  by_cases c : j = i
  .rw [if_pos c] at hv
   split at hv
   .cases hv; rfl
   cases hv
  rw [if_neg c] at hv
  exact h.no i v hv fun e => hnin ⟨e, fun e2 => c e2.symm⟩
 obtain ⟨h1, h2⟩ := (m _).1 hb
 simp only [Bq, Int.toNat_natCast, List.getElem?_set] at hv
 simp only at h2
 rw [if_neg (fun c => h2 (by omega))] at hv
 exact h.at_ i v r' b hv hr' h1
theorem D7.freed (h : D7 l held left L) {j : Nat} {r : AQ} (hj : l[j]? = some r) {b : B5} (hb : ((j : Int), b) ∈ L) (e : Int) :
  D7 l (if Gw (EP e b) then held else Bq held (j : Int) false) (Bq left (j : Int) (EP e b).st) (Ia L (j : Int) e) := by
 have hI := h.inv
 have hs := Q8 hI (j : Int) e
 have mk : ∀ i : Nat, ((i : Int) ∈ (Ia L (j : Int) e).map (·.1)) ↔ (i : Int) ∈ L.map (·.1) /\ (i = j -> Gw (EP e b) = true) := fun i => by
  rw [List.mem_map]
  constructor
  .rintro ⟨q, hq, he⟩
   rcases H3.1 hq with ⟨h1, h2⟩ | ⟨h1, h2, b', h3, h4⟩
   .exact ⟨List.mem_map.2 ⟨q, h1, he⟩, fun c => absurd (by omega : q.1 = (j : Int)) h2⟩
   refine ⟨?_, fun _ => ?_⟩
   .rw [<- he, h1]; exact List.mem_map.2 ⟨_, h3, rfl⟩
   have : b' = b := S4 hI h3 hb rfl
   rw [<- this, <- h4]; exact h2
  rintro ⟨h1, h2⟩
  obtain ⟨p, hp, he⟩ := List.mem_map.1 h1
  by_cases c : i = j
  .exact ⟨((j : Int), EP e b), H3.2 (.inr ⟨rfl, h2 c, b, hb, rfl⟩), by rw [c]⟩
  exact ⟨p, H3.2 (.inl ⟨hp, by omega⟩), he⟩
 have hjin : (j : Int) ∈ L.map (·.1) := List.mem_map.2 ⟨_, hb, rfl⟩
 refine ⟨hs.inv hI, fun q hq => ?_, ?_, by simp [Bq, h.ll], fun q hq => ?_, fun i c hc => ?_, fun i v hv hnin => ?_, fun i v r' b' hv hr' hb' => ?_⟩
 .rcases H3.1 hq with ⟨h1, h2⟩ | ⟨h1, h2, b', h3, h4⟩
  .exact h.once q h1
  rw [h4]
  exact (h.once _ h3).filter _
 .split
  .exact h.hl
  simp [Bq, h.hl]
 .obtain ⟨p, hp, k1, -⟩ := hs.ofs q hq
  rw [k1]; exact h.own p hp
 .have big : c = decide ((i : Int) ∈ L.map (·.1) /\ (i = j -> Gw (EP e b) = true)) := by
   cases hlv : Gw (EP e b) with
   | true =>
    rw [hlv, if_pos rfl] at hc
    rw [h.is i c hc]
    exact decide_eq_decide.2 ⟨fun h => ⟨h, fun _ => rfl⟩, fun h => h.1⟩
   | false =>
    rw [hlv, if_neg (by decide)] at hc
    simp only [Bq, Int.toNat_natCast, List.getElem?_set] at hc
    by_cases cj : j = i
    .subst cj
     rw [if_pos rfl] at hc
     split at hc
     .cases hc; symm; exact decide_eq_false fun h => by have := h.2 rfl; cases this
     cases hc
    rw [if_neg cj] at hc
    rw [h.is i c hc]
    exact decide_eq_decide.2 ⟨fun h => ⟨h, fun e => absurd e.symm cj⟩, fun h => h.1⟩
  rw [big]
  exact decide_eq_decide.2 (mk i).symm
 .rw [mk] at hnin
  simp only [Bq, Int.toNat_natCast, List.getElem?_set] at hv
  by_cases c : j = i
  .subst c
   rw [if_pos rfl] at hv
   split at hv
   .cases hv
    have hd : Gw (EP e b) = false := Bool.eq_false_iff.2 fun hl => hnin ⟨hjin, fun _ => hl⟩
    unfold Gw at hd
    have := of_decide_eq_false hd
    exact List.eq_nil_of_length_eq_zero (by omega)
   cases hv
  rw [if_neg c] at hv
  exact h.no i v hv fun e => hnin ⟨e, fun e2 => absurd e2.symm c⟩
 simp only [Bq, Int.toNat_natCast, List.getElem?_set] at hv
 rcases H3.1 hb' with ⟨h1, h2⟩ | ⟨h1, h2, b2, h3, h4⟩
 .simp only at h2
  rw [if_neg (fun c => h2 (by omega))] at hv
  exact h.at_ i v r' b' hv hr' h1
 simp only at h1 h4
 have hij : j = i := by omega
 subst hij
 have hbb : b2 = b := S4 hI h3 hb rfl
 subst hbb
 rw [if_pos rfl] at hv
 rw [hj] at hr'; cases hr'
 split at hv
 .cases hv
  obtain ⟨v0, hv0⟩ : ∃ v0, left[j]? = some v0 := ⟨_, List.getElem?_eq_getElem ‹_›⟩
  obtain ⟨k1, k2, k3, k4⟩ := h.at_ j v0 r b2 hv0 hj hb
  subst h4
  refine ⟨rfl, k2, k3, fun x hx hxe => ?_⟩
  obtain ⟨x1, x2⟩ := List.mem_filter.1 hxe
  exact List.mem_filter.2 ⟨k4 x hx x1, x2⟩
 cases hv
theorem D7.start (l : List AQ) : D7 l (List.replicate l.length false) (List.replicate l.length []) [] := by
 refine ⟨⟨by simp, by simp, by simp, by simp, by simp, by simp, by simp, by simp, by simp⟩, by simp, by simp, by simp, by simp, fun i b hb => ?_, fun i v hv _ => ?_, fun i v r b _ _ hb => by cases hb⟩
 .rw [List.getElem?_replicate] at hb
  split at hb <;> cases hb
  rfl
 rw [List.getElem?_replicate] at hv
 split at hv <;> cases hv
 rfl
end Go.E
/- Plain Lean: the law LockApart. No condition. -/
namespace Go.E
open Go
theorem bsA {α β : Type} {o : Option α} {a : α} {f : α -> Option β} {r : β} (h : o = some a) (k : f a = some r) : o.bind f = some r := by rw [h]; exact k
theorem O2 {α : Type} {l : List α} {i : Nat} {a : α} (h : l[i]? = some a) : l.set i a = l := by
 apply List.ext_getElem?
 intro j
 rw [List.getElem?_set]
 split
 .subst_vars
  rw [if_pos (List.getElem?_eq_some_iff.1 h).1, h]
 rfl
theorem Zs (u : Int) : ∃ q, SP u 4 = some q /\ 0 <= AX q := by
 unfold SP
 rw [if_neg (by decide)]
 refine ⟨_, rfl, ?_⟩
 unfold AX IntKind.wrap
 simp only [IntKind.signed, IntKind.bits]
 simp
 omega
theorem Qg (hk : Fx = some true) (p : AH) (ws vs : List Int) (kw : ∀ v ∈ ws, (Lit.int .u8 v).wf = true) (kv : ∀ v ∈ vs, (Lit.int .u8 v).wf = true) : F8 p ws vs = some true := by
 unfold F8
 simp only [hk, Option.bind_some, Bool.not_true, cond_false]
 obtain ⟨l, e, h1, h2⟩ := W8 p
 simp only [h1, Option.bind_some]
 cases e with
 | false => rfl
 | true =>
  obtain ⟨hv, n, hn, hlen, rfl⟩ := h2 rfl
  have hne := hv.ne
  have hLR : ∀ r ∈ (D3 p).1.map (FY n), S2 r /\ 1 <= r.steps.length := fun r hr => by
   obtain ⟨r0, h0, rfl⟩ := List.mem_map.1 hr
   refine ⟨W9 hv hn h0, ?_⟩
   obtain ⟨s, hs⟩ := O3 h0
   have hl := H4 hs
   have hnd : r0.needs.length <= 12 := (Eb hs).2.2.2.2.2.2.2.2
   have hf := (L0 hv hn hl (show r0.needs.length <= 1000 by omega)).2
   rw [hf.steps]
   exact (Eb hs).2.2.2.2.2.2.2.1
  generalize hg : (D3 p).1.map (FY n) = l at hLR
  have hlen' : l.length <= 64 := by rw [<- hg, List.length_map]; exact hlen
  simp only [Bool.not_true, cond_false, Option.bind_some]
  by_cases c1 : l.length = 0
  .simp [c1]
  have c1' : ((l.length : Int) == 0) = false := by simp only [beq_eq_false_iff_ne]; omega
  by_cases c2 : (60 : Int) < (ws.length : Int)
  .simp [c1', c2]
  by_cases c3 : (vs.length : Int) < (ws.length : Int)
  .simp [c1', c2, c3]
  have hmk : ∀ {α : Type} (z : α), PX (l.length : Int) z = some (List.replicate l.length z) := fun z => by unfold PX; rw [if_pos (by omega)]; rfl
  simp only [c1', cond_false, decide_eq_false c2, decide_eq_false c3, Option.bind_some, Zt hne, hmk]
  obtain ⟨t, ht, rfl⟩ : ∃ t, AO (BW ws vs (l, true)) (0, (p.elems.length : Int), List.replicate l.length false, List.replicate l.length [], [], [], [], []) = some t /\ t = true := by
   refine EE (fun k s => k <= ws.length /\ ∃ held left L, D7 l held left L /\ L.length <= k /\ s = ((k : Int), (p.elems.length : Int), held, left, (bk (p.elems.length : Int) L).steps, (bk (p.elems.length : Int) L).zone, (bk (p.elems.length : Int) L).needs, (bk (p.elems.length : Int) L).guards)) ws.length ?_
    ⟨Nat.zero_le _, _, _, [], D7.start l, Nat.zero_le _, rfl⟩
   rintro k s ⟨hkl, held, left, L, hH, hL, rfl⟩
   have hI := hH.inv
   by_cases he : k = ws.length
   .subst he
    exact .inl ⟨true, by simp only [BW, B2, cond_false], rfl⟩
   have hlt : k < ws.length := by omega
   obtain ⟨v, hvk⟩ : ∃ v, ws[k]? = some v := ⟨_, List.getElem?_eq_getElem hlt⟩
   obtain ⟨u, huk⟩ : ∃ u, vs[k]? = some u := ⟨_, List.getElem?_eq_getElem (by omega)⟩
   obtain ⟨v1, v2, v3⟩ := Z9 (kw v (List.mem_of_getElem? hvk))
   obtain ⟨u1, u2, u3⟩ := Z9 (kv u (List.mem_of_getElem? huk))
   obtain ⟨j, j1, j2⟩ := O4 (n := v) (k := l.length) v1 (by omega)
   obtain ⟨r, hr⟩ : ∃ r, l[j]? = some r := ⟨_, List.getElem?_eq_getElem j1⟩
   obtain ⟨b, hb⟩ : ∃ b, held[j]? = some b := ⟨_, List.getElem?_eq_getElem (by rw [hH.hl]; exact j1)⟩
   obtain ⟨w, hw⟩ : ∃ w, left[j]? = some w := ⟨_, List.getElem?_eq_getElem (by rw [hH.ll]; exact j1)⟩
   obtain ⟨q, q1, q2⟩ := O4 (n := u) (k := 4) u1 (by omega)
   have q2 : NR u 4 = some (q : Int) := q2
   obtain ⟨hrL, hr1⟩ := hLR r (List.mem_of_getElem? hr)
   have hwl : w.length <= 1000 := by
    by_cases c : (j : Int) ∈ L.map (·.1)
    .obtain ⟨p', hp', he'⟩ := List.mem_map.1 c
     have hp2 : ((j : Int), p'.2) ∈ L := by rw [<- he']; exact hp'
     rw [(hH.at_ j w r p'.2 hw hr hp2).1]; exact (hI.small p' hp').1.1
    rw [hH.no j w hw c]; simp
   have ap : ∀ {held' left' L'}, D7 l held' left' L' -> EX (bk (p.elems.length : Int) L') l held' left' = some true := fun h' => W7 h' (fun r hr => (hLR r hr).1) hlen'
   have el := RA r (by have := hrL.ls; omega)
   have hne' : (r.steps.map (·.elem)).length ≠ 0 := by rw [List.length_map]; omega
   have fin : ∀ {held' left' L'}, D7 l held' left' L' -> L'.length <= k + 1 ->
     (BW ws vs (l, true) ((k : Int), (p.elems.length : Int), held, left, (bk (p.elems.length : Int) L).steps, (bk (p.elems.length : Int) L).zone, (bk (p.elems.length : Int) L).needs, (bk (p.elems.length : Int) L).guards) = some (.inl (((k + 1 : Nat) : Int), (p.elems.length : Int), held', left', (bk (p.elems.length : Int) L').steps, (bk (p.elems.length : Int) L').zone, (bk (p.elems.length : Int) L').needs, (bk (p.elems.length : Int) L').guards))) ->
     (∃ b, BW ws vs (l, true) ((k : Int), (p.elems.length : Int), held, left, (bk (p.elems.length : Int) L).steps, (bk (p.elems.length : Int) L).zone, (bk (p.elems.length : Int) L).needs, (bk (p.elems.length : Int) L).guards) = some (.inr b) /\ b = true) \/ (k < ws.length /\ ∃ s', BW ws vs (l, true) ((k : Int), (p.elems.length : Int), held, left, (bk (p.elems.length : Int) L).steps, (bk (p.elems.length : Int) L).zone, (bk (p.elems.length : Int) L).needs, (bk (p.elems.length : Int) L).guards) = some (.inl s') /\ k + 1 <= ws.length /\ ∃ held left L, D7 l held left L /\ L.length <= k + 1 /\ s' = (((k + 1 : Nat) : Int), (p.elems.length : Int), held, left, (bk (p.elems.length : Int) L).steps, (bk (p.elems.length : Int) L).zone, (bk (p.elems.length : Int) L).needs, (bk (p.elems.length : Int) L).guards)) := fun h1 h2 h3 => .inr ⟨hlt, _, h3, by omega, _, _, _, h1, h2, rfl⟩
   have close : ∀ {held' left' L'}, D7 l held' left' L' -> ((EX (bk (p.elems.length : Int) L') l held' left').bind fun y => bif (!y) then some (.inr false) else some (.inl (((k + 1 : Nat) : Int), (p.elems.length : Int), held', left', (bk (p.elems.length : Int) L').steps, (bk (p.elems.length : Int) L').zone, (bk (p.elems.length : Int) L').needs, (bk (p.elems.length : Int) L').guards)) : Option (_ ⊕ Bool)) = some (.inl (((k + 1 : Nat) : Int), (p.elems.length : Int), held', left', (bk (p.elems.length : Int) L').steps, (bk (p.elems.length : Int) L').zone, (bk (p.elems.length : Int) L').needs, (bk (p.elems.length : Int) L').guards)) := fun h => bsA (ap h) rfl
   by_cases d0 : q = 0 \/ q = 1
   .have dt : (bif ((q : Int) == 0) then some ((q : Int) == 0) else some ((q : Int) == 1) : Option Bool) = some true := by
     rcases d0 with rfl | rfl <;> rfl
    obtain ⟨x, t1, t2, t3⟩ := ZA (n := (p.elems.length : Int)) hI (by omega) (j : Int) (by omega) r hrL
    have t2' : BT ⟨(p.elems.length : Int), (bk (p.elems.length : Int) L).steps, (bk (p.elems.length : Int) L).zone, (bk (p.elems.length : Int) L).needs, (bk (p.elems.length : Int) L).guards⟩ (j : Int) r = _ := t2
    by_cases hx : x = 0
    .subst hx
     obtain ⟨i1, i2, i3⟩ := t3 rfl
     rw [if_pos rfl] at t2'
     have hb' : b = false := by rw [hH.is j b hb]; exact decide_eq_false i2
     subst hb'
     have h' := hH.took hr i1 i2 i3.once
     refine fin h' (by rw [List.length_append]; simp; omega) ?_
     simp only [BW, BQ hvk, cond_true, AY, hvk, v3, j2, hr, el, huk, q2, dt, t2', hb, hw, Option.bind_some, beq_self_eq_true, cond_false, D8, AT (show k < 1000000000 by omega)]
     exact close h'
    rw [if_neg hx] at t2'
    refine fin hH (by omega) ?_
    simp only [BW, BQ hvk, cond_true, AY, hvk, v3, j2, hr, el, huk, q2, dt, t2', Option.bind_some, beq_eq_false_iff_ne.2 hx, cond_false, D8, AT (show k < 1000000000 by omega)]
    exact close hH
   have dt : (bif ((q : Int) == 0) then some ((q : Int) == 0) else some ((q : Int) == 1) : Option Bool) = some false := by
    have : q = 2 \/ q = 3 := by omega
    rcases this with rfl | rfl <;> rfl
   by_cases d2 : q = 2
   .subst d2
    obtain ⟨z, z1, z2⟩ := Zs u
    obtain ⟨a, a1, a2⟩ := O4 (n := AX z) (k := (r.steps.map (·.elem)).length) z2 (by omega)
    obtain ⟨e, ha⟩ : ∃ e, (r.steps.map (·.elem))[a]? = some e := ⟨_, List.getElem?_eq_getElem a1⟩
    have wo := U7 w hwl e
    have hin := Md w (by omega) e
    have hset : (Bq left (j : Int) (w.filter fun y => !(decide (y = e))))[j]? = some (w.filter fun y => !(decide (y = e))) := by
     simp only [Bq, Int.toNat_natCast]
     rw [List.getElem?_set, if_pos rfl, if_pos (by rw [hH.ll]; exact j1)]
    have hfl := List.length_filter_le (fun y : Int => !(decide (y = e))) w
    have hsum : ((AX (AX (((w.filter fun y => !(decide (y = e))).length : Int) + (r.zone.length : Int)) + (r.guards.length : Int))) == 0) = !(decide (0 < (w.filter fun y => !(decide (y = e))).length + r.zone.length + r.guards.length)) := by
     have := hrL.lz; have := hrL.lg
     rw [CG (n := ((w.filter fun y => !(decide (y = e))).length : Int) + (r.zone.length : Int)) (by omega) (by omega), CG (by omega) (by omega)]
     rw [Bool.eq_iff_iff]
     simp only [beq_iff_eq, Bool.not_eq_true', decide_eq_false_iff_not]
     omega
    by_cases hj : (j : Int) ∈ L.map (·.1)
    .obtain ⟨p', hp', he'⟩ := List.mem_map.1 hj
     have hp2 : ((j : Int), p'.2) ∈ L := by rw [<- he']; exact hp'
     obtain ⟨k1, k2, k3, k4⟩ := hH.at_ j w r p'.2 hw hr hp2
     have hb' : b = true := by rw [hH.is j b hb]; exact decide_eq_true hj
     subst hb'
     have h' := hH.freed hr hp2 e
     have hst : (EP e p'.2).st = w.filter fun y => !(decide (y = e)) := by rw [k1]; rfl
     have hlv : Gw (EP e p'.2) = decide (0 < (w.filter fun y => !(decide (y = e))).length + r.zone.length + r.guards.length) := by
      unfold Gw; rw [hst]; show decide (0 < _ + p'.2.zn.length + p'.2.gd.length) = _; rw [k2, k3]
     rw [hst, hlv] at h'
     have hfreeL : (Ia L (j : Int) e).length <= k + 1 := by have := (Q8 hI (j : Int) e).len; omega
     by_cases hw2 : e ∈ w
     .have f0 := W3 (n := (p.elems.length : Int)) hI hp' (hH.once p' hp') (by rw [<- k1]; exact hw2)
      rw [he'] at f0
      have f1 : Bj ⟨(p.elems.length : Int), (bk (p.elems.length : Int) L).steps, (bk (p.elems.length : Int) L).zone, (bk (p.elems.length : Int) L).needs, (bk (p.elems.length : Int) L).guards⟩ (j : Int) e = _ := f0
      refine fin h' hfreeL ?_
      simp only [BW, BQ hvk, cond_true, AY, hvk, v3, j2, hr, el, huk, q2, dt, Option.bind_some, cond_false, z1, a2, ha, hb, f1, hw, hin, decide_eq_true hw2, wo, AT (show k < 1000000000 by omega)]
      simp only [show ((((2 : Nat) : Int)) == 2) = true from rfl, cond_true, beq_self_eq_true, Bool.not_true, cond_false, hset, Option.bind_some, hr, hsum]
      cases hd : decide (0 < (w.filter fun y => !(decide (y = e))).length + r.zone.length + r.guards.length) with
      | true => rw [hd, if_pos rfl] at h'; simp only [Bool.not_true, cond_false, D8]; exact close h'
      | false => rw [hd, if_neg (by decide)] at h'; simp only [Bool.not_false, cond_true, D8, AY, hb, Option.bind_some]; exact close h'
     have f0 := UF (n := (p.elems.length : Int)) hI (o := (j : Int)) (e := e) (fun q hq hqj => by rw [S4 hI hq hp2 hqj, <- k1]; exact hw2)
     have f1 : Bj ⟨(p.elems.length : Int), (bk (p.elems.length : Int) L).steps, (bk (p.elems.length : Int) L).zone, (bk (p.elems.length : Int) L).needs, (bk (p.elems.length : Int) L).guards⟩ (j : Int) e = _ := f0
     have hself : (w.filter fun y => !(decide (y = e))) = w := List.filter_eq_self.2 fun y hy => by
      have : ¬ y = e := fun c => hw2 (c ▸ hy)
      simp [this]
     have hsetl : Bq left (j : Int) w = left := by
      simp only [Bq, Int.toNat_natCast]
      exact O2 hw
     have hpos : decide (0 < w.length + r.zone.length + r.guards.length) = true := by
      have := hI.holds p' hp'
      rw [<- k2, <- k3, k1]; exact decide_eq_true this
     rw [hself] at hsum wo hset
     refine fin hH (by omega) ?_
     simp only [BW, BQ hvk, cond_true, AY, hvk, v3, j2, hr, el, huk, q2, dt, Option.bind_some, cond_false, z1, a2, ha, hb, f1, hw, hin, decide_eq_false hw2, wo, AT (show k < 1000000000 by omega)]
     simp only [show ((((2 : Nat) : Int)) == 2) = true from rfl, cond_true, beq_self_eq_true, Bool.not_true, cond_false, hsetl, hw, Option.bind_some, hr, hsum, hpos, D8]
     exact close hH
    have hb' : b = false := by rw [hH.is j b hb]; exact decide_eq_false hj
    subst hb'
    have hw0 : w = [] := hH.no j w hw hj
    subst hw0
    have f0 := UF (n := (p.elems.length : Int)) hI (o := (j : Int)) (e := e) (fun q hq hqj => absurd (List.mem_map.2 ⟨q, hq, hqj⟩) hj)
    have f1 : Bj ⟨(p.elems.length : Int), (bk (p.elems.length : Int) L).steps, (bk (p.elems.length : Int) L).zone, (bk (p.elems.length : Int) L).needs, (bk (p.elems.length : Int) L).guards⟩ (j : Int) e = _ := f0
    have hsetl : Bq left (j : Int) [] = left := by
     simp only [Bq, Int.toNat_natCast]
     exact O2 hw
    have hseth : Bq held (j : Int) false = held := by
     simp only [Bq, Int.toNat_natCast]
     exact O2 hb
    rw [List.filter_nil] at hsum wo hset
    refine fin hH (by omega) ?_
    simp only [BW, BQ hvk, cond_true, AY, hvk, v3, j2, hr, el, huk, q2, dt, Option.bind_some, cond_false, z1, a2, ha, hb, f1, hw, wo, AT (show k < 1000000000 by omega)]
    simp only [show ((((2 : Nat) : Int)) == 2) = true from rfl, cond_true, beq_self_eq_true, Bool.not_true, cond_false, hsetl, hw, Option.bind_some, hr, hsum]
    cases hd : decide (0 < ([] : List Int).length + r.zone.length + r.guards.length) with
    | true => simp only [Bool.not_true, cond_false, D8]; exact close hH
    | false => simp only [Bool.not_false, cond_true, D8, AY, hb, Option.bind_some, hseth]; exact close hH
   have d3 : q = 3 := by omega
   subst d3
   have f0 := ZB (n := (p.elems.length : Int)) hI (j : Int)
   have f1 : B4 ⟨(p.elems.length : Int), (bk (p.elems.length : Int) L).steps, (bk (p.elems.length : Int) L).zone, (bk (p.elems.length : Int) L).needs, (bk (p.elems.length : Int) L).guards⟩ (j : Int) = _ := f0
   have h' := hH.dropped (j := j)
   have hbe : (decide ((j : Int) ∈ L.map (·.1)) == b) = true := by rw [hH.is j b hb]; exact beq_self_eq_true _
   refine fin h' (by have := List.length_filter_le (fun p : Int × B5 => !(decide (p.1 = (j : Int)))) L; omega) ?_
   simp only [BW, BQ hvk, cond_true, AY, hvk, v3, j2, hr, el, huk, q2, dt, Option.bind_some, cond_false, hb, f1, hbe, hw, Bool.not_true, AT (show k < 1000000000 by omega)]
   simp only [show ((((3 : Nat) : Int)) == 2) = false from rfl, cond_false, hb, f1, hbe, hw, Bool.not_true, Option.bind_some, D8]
   exact close h'
  exact ht
end Go.E
/- The known answers of layer 14. No condition. -/
set_option maxRecDepth 100000
namespace Go.E
open Go Go.Proofs
theorem bs {α β : Type} {o : Option α} {a : α} {f : α -> Option β} {r : β} (h : o = some a) (k : f a = some r) : o.bind f = some r := by rw [h]; exact k
theorem bt {α : Type} {c : Bool} {a b : Option α} {r : α} (h : c = true) (k : a = some r) : (bif c then a else b) = some r := by rw [h]; exact k
theorem bF {α : Type} {c : Bool} {a b : Option α} {r : α} (h : c = false) (k : b = some r) : (bif c then a else b) = some r := by rw [h]; exact k
noncomputable def Rs : AH := IG.getD ⟨[], [], [], [], 0, 0, 0, 0, false⟩
noncomputable def Lu : List AQ := match Dp Rs with
 | some c => c.1.roads
 | none => []
noncomputable def kR (i : Nat) : AQ := Lu.getD i ⟨0, 0, 0, [], [], [], [], [], false⟩
noncomputable def Pt : AV := C5 6 1 (kR 1)
noncomputable def Vz : AV := ⟨6, Av 0 ((kR 0).steps.map (·.elem)) Pt.steps, Av 0 (kR 0).zone Pt.zone, Av 0 (kR 0).needs Pt.needs, Av 0 (kR 0).guards Pt.guards⟩
noncomputable def T7 : AV := match Bj Vz 1 2 with
 | some b => b.1
 | none => Vz
noncomputable def Pu : AV := match B4 T7 0 with
 | some b => b.1
 | none => T7
def V0 (n : Int) (r : AQ) : Bool := decide (1 <= r.steps.length) && decide (r.steps.length <= 1000) && decide (r.needs.length <= 1000) && decide (r.guards.length <= 1000) && decide (r.zone.length <= 1000) && decide (∀ s ∈ r.steps, 0 <= s.elem /\ s.elem < n) &&
 decide ((r.steps.map (·.elem)).Nodup) && decide (∀ e ∈ r.zone, 0 <= e /\ e < n /\ e ∉ r.steps.map (·.elem)) && decide (∀ x ∈ r.needs ++ r.guards, (0 <= x.elem /\ x.elem < n) /\ (x.pos = 1 \/ x.pos = 2)) && decide (∀ a ∈ r.needs ++ r.guards, ∀ b ∈ r.needs ++ r.guards, a.elem = b.elem -> a.pos = b.pos)
theorem Ox {n : Int} {r : AQ} (h : V0 n r = true) : D0 n r := by
 simp only [V0, Bool.and_eq_true, decide_eq_true_eq] at h
 obtain ⟨⟨⟨⟨⟨⟨⟨⟨⟨h1, h2⟩, h3⟩, h4⟩, h5⟩, h6⟩, h7⟩, h8⟩, h9⟩, h10⟩ := h
 exact ⟨h1, h2, h3, h4, h5, h6, h7, h8, h9, h10⟩
def Yy (m : List (Int × List Int)) (e : Int) : Bool := decide (∀ p ∈ m, ∀ q ∈ m, e ∈ p.2 -> e ∈ q.2 -> p.1 = q.1) && decide (∀ p ∈ m, p.2.length < 1000000)
def Xl (b : AV) (e : Int) : Bool := decide (b.needs.length < 1000000) && decide (∀ p ∈ b.needs, ((AU b.needs p.1).getD []).length < 100000 /\ ((AU b.guards p.1).getD []).length < 100000) && decide (∀ x ∈ Ca b e b.needs, ∀ y ∈ Ca b e b.needs, x = y)
theorem V1 {b : AV} {e v : Int} (h : Yy b.steps e = true) (hv : Oy b.steps e = v) : BL b e = some v := by
 simp only [Yy, Bool.and_eq_true, decide_eq_true_eq] at h
 rw [Ma b e h.1 h.2, hv]
theorem T8 {b : AV} {e : Int} {v : Int × Int} (h : Xl b e = true) (hv : ((Ca b e b.needs).headD 0, ((Ca b e b.needs).length : Int)) = v) : Bc b e = some v := by
 simp only [Xl, Bool.and_eq_true, decide_eq_true_eq] at h
 rw [OE b e h.1.1 h.1.2 h.2, hv]
theorem YH : Fx = some true := by
 have R0 : D0 6 (kR 0) := Ox (by kernel_rfl)
 have R1 : D0 6 (kR 1) := Ox (by kernel_rfl)
 have R4 : D0 6 (kR 4) := Ox (by kernel_rfl)
 have c4 : Sq (kR 1) (kR 4) = 14 := by kernel_rfl
 have c0 : Sq (kR 1) (kR 0) = 0 := by kernel_rfl
 have t1 : BT (OF 6) 1 (kR 1) = some (Pt, 0) := Zr 6 1 (kR 1) R1 (by decide)
 have m4 : BU Pt 4 (kR 4) = some 14 := (Yz 6 1 4 (kR 1) (kR 4) R1 R4 (by decide) (by decide) (by decide)).trans (congrArg some c4)
 have m0 : BU Pt 0 (kR 0) = some 0 := (Yz 6 1 0 (kR 1) (kR 0) R1 R0 (by decide) (by decide) (by decide)).trans (congrArg some c0)
 have t2 : BT Pt 0 (kR 0) = some (Vz, 0) := Oz Pt 0 (kR 0) R0 m0
 have h2 : Bc Vz 2 = some (1, 1) := T8 (by kernel_rfl) (by kernel_rfl)
 have f3 : Bj Vz 1 2 = some (T7, true) := by kernel_rfl
 have h3 : Bc T7 2 = some (0, 0) := T8 (by kernel_rfl) (by kernel_rfl)
 have o3 : BL T7 3 = some 1 := V1 (by kernel_rfl) (by kernel_rfl)
 have d4 : B4 T7 0 = some (Pu, true) := by kernel_rfl
 have d5 : B4 Pu 0 = some (Pu, false) := by kernel_rfl
 have os : Cz Pu = some [1] := by rw [V2 Pu (of_decide_eq_true (by kernel_rfl))]; exact congrArg some (by kernel_rfl)
 have o4 : BL Pu 1 = some (-1) := V1 (by kernel_rfl) (by kernel_rfl)
 have z4 : Bt Pu 1 = some [] := by rw [Mb Pu 1 (of_decide_eq_true (by kernel_rfl)) (of_decide_eq_true (by kernel_rfl))]; exact congrArg some (by kernel_rfl)
 have hp : IG = some Rs := by kernel_rfl
 have hb : Dp Rs = some (⟨Rs, Lu⟩, 0) := by kernel_rfl
 have s6 : ((Lu.length : Int) != 6) = false := by kernel_rfl
 have i1 : Ad Lu 1 = some (kR 1) := by kernel_rfl
 have i4 : Ad Lu 4 = some (kR 4) := by kernel_rfl
 have i0 : Ad Lu 0 = some (kR 0) := by kernel_rfl
 have hs : BM Pu 1 = some true := by kernel_rfl
 have sm : Hd [1] [1] = some true := by kernel_rfl
 unfold Fx
 refine bs hp <| bs hb <| bs rfl <| bs (a := false) (bF rfl (congrArg some s6)) <| bF rfl <| bs i1 <| bs i4 <| bs i0 <| bs t1 <| bs m4 <| bs t2 <| bs h2 <| bs f3 <| bs h3 <| bs o3 <| bs d4 <| ?_
 refine bs (a := true) ?_ rfl
 refine bt rfl <| bt rfl <| bt rfl <| bt rfl <| bt rfl <| bt rfl <| bt rfl <| bt rfl <| bt rfl <| bt rfl <| bs d5 <| bt rfl <| bs os <| bs sm <| bt rfl <| bs hs <| bt rfl <| bs o4 <| bt rfl <| bs z4 rfl
end Go.E
