/- Plain Lean: RoadFinds answers true, for every argument. No condition. -/
import Derived.KernelRfl
import Derived.Test.YtilbadmonidmhaaGreatJ4
set_option linter.unusedVariables false
set_option linter.unusedSimpArgs false
namespace Go.E
open Go
theorem XT {α : Type} [DecidableEq α] {a b : List α} (hl : a.length = b.length) (hb : a.length < 1000000) {step : Int -> Option (Int ⊕ Bool)}
    (h : ∀ i : Nat, i <= a.length -> step (i : Int) = if h : i < a.length then (if a[i] = b[i]'(by omega) then some (.inl ((i + 1 : Nat) : Int)) else some (.inr false)) else some (.inr true)) : AY step 0 = some (decide (a = b)) := by
  by_cases hab : a = b
  . subst hab
    obtain ⟨r, h1, h2⟩ := Eo (l := a) (step := step) (Post := fun r => r = true) (fun _ _ => True) (fun _ => ⟨true, by rw [h _ (Nat.le_refl _)]; simp, rfl⟩)
      (fun i x hx _ => .inr ⟨by have := Cl hx; rw [h _ (by omega), dif_pos this, if_pos rfl], trivial⟩)
    rw [h1, h2]; simp
  obtain ⟨r, h1, h2⟩ := Eo (l := a) (step := step) (Post := fun r => r = false) (fun i x => b[i]? = some x) (fun good => by
      exfalso; refine hab (List.ext_getElem hl fun i h1 h2 => ?_)
      have := good i _ (List.getElem?_eq_getElem h1)
      rw [List.getElem?_eq_getElem h2] at this
      exact (Option.some.inj this).symm)
    (fun i x hx _ => by
      have hi := Cl hx
      have hx' : a[i] = x := Option.some.inj ((List.getElem?_eq_getElem hi).symm.trans hx)
      rw [h _ (by omega), dif_pos hi]
      by_cases e : a[i] = b[i]'(by omega)
      . exact .inr ⟨by rw [if_pos e], by rw [List.getElem?_eq_getElem (by omega), <- e, hx']⟩
      exact .inl ⟨false, by rw [if_neg e], rfl⟩)
  rw [h1, h2]; simp [hab]
theorem XU {α : Type} [DecidableEq α] {a b : List α} (hl : a.length = b.length) (hb : a.length < 1000000) (i : Nat) (hi : i <= a.length) :
  (bif decide ((i : Int) < (a.length : Int)) then (Ar a i).bind fun y => (Ar b i).bind fun z => bif (!(y == z)) then some (.inr false) else some (.inl (Ak ((i : Int) + 1))) else some (.inr true) : Option (Int ⊕ Bool)) =
   if h : i < a.length then (if a[i] = b[i]'(by omega) then some (.inl ((i + 1 : Nat) : Int)) else some (.inr false)) else some (.inr true) := by
 by_cases h : i < a.length
 .have d : decide ((i : Int) < (a.length : Int)) = true := by simpa using h
  have h2 : b[i]? = some (b[i]'(by omega)) := List.getElem?_eq_getElem _
  simp only [d, cond_true, A0, List.getElem?_eq_getElem h, h2, Option.bind_some, dif_pos h, As (show i < 1000000000 by omega)]
  by_cases e : a[i] = b[i]'(by omega)
  .simp [e]
  have : (a[i] == b[i]'(by omega)) = false := beq_eq_false_iff_ne.2 e
  simp only [this, Bool.not_false, cond_true, if_neg e]
 have d : decide ((i : Int) < (a.length : Int)) = false := by simp; omega
 simp only [d, cond_false, dif_neg h]
theorem YT {α : Type} [DecidableEq α] {a b : List α} (h : a.length ≠ b.length) : decide (a = b) = false := by
 simp only [decide_eq_false_iff_not]; intro e; exact h (by rw [e])
theorem Ta (a b : List Int) (hb : a.length < 1000000) : DH a b = some (decide (a = b)) := by
 unfold DH
 rw [UH]
 split
 .exact XT (by omega) hb fun i hi => by unfold Gr; exact XU (by omega) hb i hi
 rw [YT (by omega)]
structure YU (r : AV) : Prop where
 steps : r.steps.length <= 1000
 needs : r.needs.length <= 1000
 guards : r.guards.length <= 1000
 zone : r.zone.length <= 1000
 holds : r.holds.length <= 1000
theorem Su (r : AV) : ∃ b, HI r = some b /\ (b = true -> YU r /\ r.steps.length <= 40) := by
 unfold HI
 by_cases h1 : (r.steps.length : Int) <= 40
 .by_cases h2 : (r.needs.length : Int) <= 40
  .by_cases h3 : (r.guards.length : Int) <= 40
   .by_cases h4 : (r.zone.length : Int) <= 60
    .by_cases h5 : (r.holds.length : Int) <= 60
     .exact ⟨true, by simp [h1, h2, h3, h4, h5], fun _ => ⟨⟨by omega, by omega, by omega, by omega, by omega⟩, by omega⟩⟩
     exact ⟨false, by simp [h1, h2, h3, h4, h5], fun h => by cases h⟩
    exact ⟨false, by simp [h1, h2, h3, h4], fun h => by cases h⟩
   exact ⟨false, by simp [h1, h2, h3], fun h => by cases h⟩
  exact ⟨false, by simp [h1, h2], fun h => by cases h⟩
 exact ⟨false, by simp [h1], fun h => by cases h⟩
theorem WI {a b : AV} : a = b ↔ a.frm = b.frm /\ a.to = b.to /\ a.fin = b.fin /\ a.steps = b.steps /\ a.needs = b.needs /\ a.guards = b.guards /\ a.zone = b.zone /\ a.holds = b.holds /\ a.bare = b.bare := by
 cases a; cases b; simp
theorem WJ {r : AV} (hl : r.steps.length < 1000000) {step : Int × List Int -> Option ((Int × List Int) ⊕ List Int)}
  (h : ∀ (i : Int) (o : List Int), step (i, o) = bif decide (i < (r.steps.length : Int)) then (Ar r.steps i).bind fun y => (A5 o [y.elem]).bind fun z => some (.inl (Ak (i + 1), z)) else some (.inr o)) : AY step (0, []) = some (r.steps.map (·.elem)) := by
 obtain ⟨b, h1, h2⟩ := GF (l := r.steps) (step := step) (Post := fun b => b = r.steps.map (·.elem)) (fun i o => o = (r.steps.take i).map (·.elem)) (c := [])
  (fun c hc => ⟨c, by rw [h]; simp [Dw], by rw [hc, List.take_length]⟩)
  (fun i a c ha hc => by
   have := Cl ha
   have hlen : c.length <= i := by rw [hc]; simp; omega
   refine .inr ⟨c ++ [a.elem], ?_, by rw [hc, EH ha]⟩
   rw [h]
   simp only [Cc ha, cond_true, A0, ha, Option.bind_some]
   rw [BY (by simp; omega)]
   simp only [Option.bind_some, As (show i < 1000000000 by omega)])
  (by simp)
 rw [h1, h2]
theorem NA (r : AV) (hl : r.steps.length < 1000000) : Da r = some (r.steps.map (·.elem)) := WJ hl fun _ _ => rfl
def Gj (n : Int) : List Int -> List Int
 | [] => [n]
 | x :: l => if x < n then x :: Gj n l else if x = n then x :: l else n :: x :: l
theorem QX (n : Int) : ∀ (l : List Int) (x : Int), x ∈ Gj n l ↔ x = n \/ x ∈ l
 | [], x => by simp [Gj]
 | y :: l, x => by
  unfold Gj
  split
  .rw [List.mem_cons, QX n l x, List.mem_cons]
   constructor
   .rintro (h | h | h)
    .exact .inr (.inl h)
    .exact .inl h
    exact .inr (.inr h)
   rintro (h | h | h)
   .exact .inr (.inl h)
   .exact .inl h
   exact .inr (.inr h)
  split
  .rename_i h; subst h; simp
  simp
theorem QY (n : Int) : ∀ l : List Int, (Gj n l).length <= l.length + 1
 | [] => by simp [Gj]
 | x :: l => by
  unfold Gj
  split
  .simp; have := QY n l; omega
  split <;> simp
theorem VE (l : List Int) (hl : l.length < 1000000) (n : Int) : F1 l n = some (Gj n l) := by
 unfold F1
 have key : ∀ (r : List Int) (i : Nat), l.drop i = r -> i <= l.length -> AY (C9 l n) (i : Int) = some (l.take i ++ Gj n r) := by
  intro r
  induction r with
  | nil =>
   intro i hd hi
   have : i = l.length := by have := congrArg List.length hd; simp at this; omega
   subst this
   refine B8 ?_
   have s1 : Gy l 0 (l.length : Int) = some l := by simp [Gy]
   have s2 : Gy l (l.length : Int) (l.length : Int) = some [] := by simp [Gy]
   simp only [C9, Dw, cond_false, Option.bind_some, s1, s2, BY (show ([] : List Int).length + l.length <= 4294967296 by simp; omega), List.nil_append, BY (show l.length + [n].length <= 4294967296 by simp; omega), BY (show (l ++ [n]).length + ([] : List Int).length <= 4294967296 by simp; omega), Option.map_some, Gj, List.take_length, List.append_nil]
  | cons a r ih =>
   intro i hd hi
   have hlt : i < l.length := by have := congrArg List.length hd; simp at this; omega
   have ha : l[i]? = some a := by
    have : (l.drop i)[0]? = some a := by rw [hd]; rfl
    simpa using this
   have hr : l.drop (i + 1) = r := by
    have : (l.drop i).drop 1 = r := by rw [hd]; rfl
    rwa [List.drop_drop] at this
   unfold Gj
   by_cases c : a < n
   .rw [if_pos c]
    rw [CJ (s' := ((i + 1 : Nat) : Int)) (by
     simp only [C9, Cc ha, cond_true, A0, ha, Option.bind_some, decide_eq_true c, As (show i < 1000000000 by omega)]), ih (i + 1) hr (by omega)]
    rw [List.take_add_one, ha]; simp
   rw [if_neg c]
   refine B8 ?_
   by_cases c2 : a = n
   .rw [if_pos c2]
    have : l.take i ++ a :: r = l := by rw [<- hd, List.take_append_drop]
    simp only [C9, Cc ha, cond_true, A0, ha, Option.bind_some, decide_eq_false c, cond_false, beq_iff_eq.2 c2, this, Option.map_some]
   rw [if_neg c2]
   have e : (a == n) = false := beq_eq_false_iff_ne.2 c2
   have s1 : Gy l 0 (i : Int) = some (l.take i) := by
    unfold Gy
    rw [if_pos ⟨by omega, by omega, by omega⟩]; simp
   have s2 : Gy l (i : Int) (l.length : Int) = some (l.drop i) := by
    unfold Gy
    rw [if_pos ⟨by omega, by omega, by omega⟩]; simp
   simp only [C9, Cc ha, cond_true, A0, ha, Option.bind_some, decide_eq_false c, cond_false, e, s1, s2]
   rw [BY (by simp; omega)]
   simp only [Option.bind_some, List.nil_append]
   rw [BY (by simp; omega)]
   simp only [Option.bind_some]
   rw [BY (by simp; omega)]
   simp only [Option.bind_some, Option.map_some, hd, List.append_assoc, List.singleton_append]
 have := key l 0 rfl (Nat.zero_le _)
 simpa using this
end Go.E
/- Plain Lean: the roads of a signal: the document's search and the program's are one. No condition. -/
namespace Go.E
open Go
def IJ (s to fin : Int) (st : List Ax) (nd : List AN) : AV := ⟨s, to, fin, st, nd, [], [], [], false⟩
def KO (nd : List AN) (e pos : Int) : List AN := if pos = 0 then nd else nd ++ [⟨e, pos⟩]
def QZ (p : AW) (s : Int) : Nat -> List Ax -> List AN -> AK -> List Int -> List AV
 | 0, _, _, _, _ => []
 | k + 1, st, nd, x, met => if x.elem ∈ met \/ st.length = 12 then [] else if BM p x.elem = 4 then [IJ s (-1) 2 (st ++ [⟨x.elem, x.fin, -1⟩]) nd] else
  (Gk p x.elem x.fin).flatMap fun w => if 0 <= Bg p ⟨x.elem, w.out⟩ then [IJ s (Bg p ⟨x.elem, w.out⟩) 1 (st ++ [⟨x.elem, x.fin, w.out⟩]) (KO nd x.elem w.pos)] else match BT p ⟨x.elem, w.out⟩ with
   | none => [IJ s (-1) 3 (st ++ [⟨x.elem, x.fin, w.out⟩]) (KO nd x.elem w.pos)]
   | some y => QZ p s k (st ++ [⟨x.elem, x.fin, w.out⟩]) (KO nd x.elem w.pos) y (met ++ [x.elem])
def SJ (p : AW) (s : Int) (k : Nat) (st : List Ax) (nd : List AN) (x : AK) (met : List Int) (w : De) : List AV :=
 if 0 <= Bg p ⟨x.elem, w.out⟩ then [IJ s (Bg p ⟨x.elem, w.out⟩) 1 (st ++ [⟨x.elem, x.fin, w.out⟩]) (KO nd x.elem w.pos)] else match BT p ⟨x.elem, w.out⟩ with
  | none => [IJ s (-1) 3 (st ++ [⟨x.elem, x.fin, w.out⟩]) (KO nd x.elem w.pos)]
  | some y => QZ p s k (st ++ [⟨x.elem, x.fin, w.out⟩]) (KO nd x.elem w.pos) y (met ++ [x.elem])
theorem SK (p : AW) (s : Int) (k : Nat) (st : List Ax) (nd : List AN) (x : AK) (met : List Int) :
  QZ p s (k + 1) st nd x met = if x.elem ∈ met \/ st.length = 12 then [] else if BM p x.elem = 4 then [IJ s (-1) 2 (st ++ [⟨x.elem, x.fin, -1⟩]) nd] else (Gk p x.elem x.fin).flatMap (SJ p s k st nd x met) := rfl
theorem NC {α β : Type} (f : α -> List β) (b : Nat) : ∀ l : List α, (∀ a ∈ l, (f a).length <= b) -> (l.flatMap f).length <= l.length * b
 | [], _ => by simp
 | a :: l, h => by
  have h1 := h a (by simp)
  have h2 := NC f b l fun x hx => h x (by simp [hx])
  simp only [List.flatMap_cons, List.length_append, List.length_cons, Nat.add_mul]
  omega
theorem Lk (l : List Int) (hl : l.length < 1000000) (x : Int) : Cs l x = some (decide (x ∈ l)) := by
 unfold Cs
 obtain ⟨b, h1, h2⟩ := Eo (l := l) (step := GD l x) (Post := fun b => b = decide (x ∈ l)) (fun _ y => y ≠ x) (fun good => ⟨false, by simp [GD], by
   symm; rw [decide_eq_false_iff_not]; intro hm
   obtain ⟨i, hi⟩ := List.getElem?_of_mem hm
   exact good i x hi rfl⟩) (fun i a ha _ => by
   have := Cl ha
   by_cases e : a = x
   .exact .inl ⟨true, by simp only [GD, Cc ha, cond_true, A0, ha, Option.bind_some, e, beq_self_eq_true], by symm; rw [decide_eq_true_iff]; subst e; exact List.mem_of_getElem? ha⟩
   have : (a == x) = false := beq_eq_false_iff_ne.2 e
   exact .inr ⟨by simp only [GD, Cc ha, cond_true, A0, ha, Option.bind_some, this, cond_false, As (show i < 1000000000 by omega)], e⟩)
 rw [h1, h2]
theorem WK (nd : List AN) (e pos : Int) : (KO nd e pos).length <= nd.length + 1 := by
 unfold KO; split <;> simp
def MC (p : AW) (s : Int) : List AV := match Ar p.signals s with
 | none => []
 | some a => match BT p a.at_ with
  | none => []
  | some y => QZ p s 13 [] [] y [a.at_.elem]
end Go.E
/- Plain Lean: the program's search for roads gives what the document's does. No condition. -/
namespace Go.E
open Go
section
variable {p : AW} {n : CT}
theorem XV {α : Type} (l : List α) (x : α) (hl : l.length < 1000000) : Ak (((l ++ [x]).length : Int) - 1) = (l.length : Int) := by
 have : (((l ++ [x]).length : Int) - 1) = (l.length : Int) := by simp
 rw [this, DW] <;> omega
theorem YV {α : Type} {l : List α} {m : Nat} (x : α) (h : l.length = m) : Ar (l ++ [x]) (m : Int) = some x := by
 rw [A0]; subst h; simp
theorem XW {α : Type} {l : List α} (h : l ≠ []) (a b : Int) : GR l a b = Gy l a b := by
 cases l with
 | nil => exact absurd rfl h
 | cons x l => rfl
theorem YW {α : Type} {l : List α} {m : Nat} (x : α) (h : l.length = m) : GR (l ++ [x]) 0 (m : Int) = some l := by
 subst h
 rw [XW (by simp)]
 unfold Gy
 rw [if_pos ⟨by omega, by omega, by simp; omega⟩]; simp
end
end Go.E
/- Plain Lean: whether something is a road: the program's answer and the document's are one. No condition. -/
namespace Go.E
open Go
theorem HO {α : Type} {l : List α} {f : α -> Bool} (hl : l.length < 1000000) {step : Int -> Option (Int ⊕ Int)}
  (h0 : step (l.length : Int) = some (.inr (-1))) (h : ∀ (i : Nat) a, l[i]? = some a -> step (i : Int) = if f a = true then some (.inr (i : Int)) else some (.inl ((i + 1 : Nat) : Int))) :
  ∃ t, AY step 0 = some t /\ ((t = -1 /\ l.find? f = none) \/ ∃ a, 0 <= t /\ l.find? f = some a /\ Ar l t = some a) := by
 have key : ∀ (r : List α) (i : Nat), l.drop i = r -> i <= l.length -> ∃ t, AY step (i : Int) = some t /\ ((t = -1 /\ r.find? f = none) \/ ∃ a, 0 <= t /\ r.find? f = some a /\ Ar l t = some a) := by
  intro r
  induction r with
  | nil =>
   intro i hd hi
   have : i = l.length := by have := congrArg List.length hd; simp at this; omega
   subst this
   exact ⟨-1, B8 h0, .inl ⟨rfl, rfl⟩⟩
  | cons a r ih =>
   intro i hd hi
   have hlt : i < l.length := by have := congrArg List.length hd; simp at this; omega
   have ha : l[i]? = some a := by
    have : (l.drop i)[0]? = some a := by rw [hd]; rfl
    simpa using this
   have hr : l.drop (i + 1) = r := by
    have : (l.drop i).drop 1 = r := by rw [hd]; rfl
    rwa [List.drop_drop] at this
   by_cases c : f a = true
   .exact ⟨i, B8 (by rw [h i a ha, if_pos c]), .inr ⟨a, by omega, by simp [c], by rw [A0, ha]⟩⟩
   obtain ⟨t, h1, h2⟩ := ih (i + 1) hr (by omega)
   refine ⟨t, by rw [CJ (by rw [h i a ha, if_neg c]), h1], ?_⟩
   simpa [List.find?_cons, c] using h2
 exact key l 0 rfl (Nat.zero_le _)
def WL (l : List De) (o : Int) : Option De := l.find? fun w => w.out == o
def DN (p : AW) (a : Int) : Option AK -> List Ax -> List AN -> List Ax -> Option (List AN)
 | _, _, nd, [] => some nd
 | none, _, _, _ :: _ => none
 | some x, pv, nd, s :: r => if s.elem ≠ x.elem \/ s.in_ ≠ x.fin \/ s.elem = a \/ s.elem ∈ pv.map (·.elem) then none else if BM p s.elem = 4 then (if r = [] /\ s.out = -1 then some nd else none) else match WL (Gk p s.elem s.in_) s.out with
  | none => none
  | some w => if r ≠ [] /\ 0 <= Bg p ⟨s.elem, s.out⟩ then none else DN p a (BT p ⟨s.elem, s.out⟩) (pv ++ [s]) (KO nd s.elem w.pos) r
def Lq (p : AW) (fin to : Int) (l : Ax) : Bool :=
 if BM p l.elem = 4 then decide (fin = 2 /\ to = -1) else if 0 <= Bg p ⟨l.elem, l.out⟩ then decide (fin = 1 /\ to = Bg p ⟨l.elem, l.out⟩) else (BT p ⟨l.elem, l.out⟩).isNone && decide (fin = 3 /\ to = -1)
def Tb (p : AW) (r : AV) : Bool := match Ar p.signals r.frm with
 | none => false
 | some sg => if r.steps.length < 1 \/ 12 < r.steps.length then false else match DN p sg.at_.elem (BT p sg.at_) [] [] r.steps with
  | none => false
  | some nd => match r.steps.getLast? with
   | none => false
   | some l => Lq p r.fin r.to l && decide (r.needs = nd)
theorem PS {p : AW} {a : Int} : ∀ {r : List Ax} {x : Option AK} {pv : List Ax} {nd nd' : List AN}, DN p a x pv nd r = some nd' -> nd'.length <= nd.length + r.length
 | [], x, pv, nd, nd', h => by
  have : nd = nd' := by cases x <;> simpa [DN] using h
  subst this; simp
 | s :: r, none, pv, nd, nd', h => by simp [DN] at h
 | s :: r, some x, pv, nd, nd', h => by
  unfold DN at h
  split at h
  .cases h
  split at h
  .split at h
   .cases h; simp
   cases h
  split at h
  .cases h
  split at h
  .cases h
  have h1 := PS h
  rename_i w _ _
  have h2 := WK nd s.elem w.pos
  simp only [List.length_cons]; omega
section
variable {p : AW} {n : CT}
end
end Go.E
/- Plain Lean: whether something is a road, as the document says; the roads of a signal are roads, and none is told twice. No condition. -/
namespace Go.E
open Go
theorem Qa (p : AW) (e i : Int) : (Gk p e i).Pairwise (fun a b => a.out ≠ b.out) := by
 unfold Gk
 repeat' split
 all_goals simp
theorem SL : ∀ {l : List De} {w : De}, l.Pairwise (fun a b => a.out ≠ b.out) -> w ∈ l -> WL l w.out = some w
 | a :: l, w, hp, hm => by
  rw [List.pairwise_cons] at hp
  unfold WL
  rw [List.find?_cons]
  rcases List.mem_cons.1 hm with rfl | hm
  .simp
  have := hp.1 w hm
  have e : (a.out == w.out) = false := beq_eq_false_iff_ne.2 this
  simp only [e]
  exact SL hp.2 hm
section
variable {p : AW} {n : CT}
structure ZR (p : AW) (a s : Int) (x : AK) (st : List Ax) (nd : List AN) (r : AV) (t : List Ax) : Prop where
 frm : r.frm = s
 guards : r.guards = []
 zone : r.zone = []
 holds : r.holds = []
 bare : r.bare = false
 steps : r.steps = st ++ t
 ne : t ≠ []
 len : r.steps.length <= 12
 all : DN p a (some x) st nd t = some r.needs
 tail : ∀ l, t.getLast? = some l -> Lq p r.fin r.to l = true
theorem OR (s a : Int) : ∀ (k : Nat) (st : List Ax) (nd : List AN) (x : AK) (r : AV), st.length + k = 13 -> r ∈ QZ p s k st nd x (a :: st.map (·.elem)) -> ∃ t, ZR p a s x st nd r t /\ ∃ u t', t = u :: t' /\ u.elem = x.elem /\ u.in_ = x.fin
 | 0, st, nd, x, r, hk, hr => by simp [QZ] at hr
 | k + 1, st, nd, x, r, hk, hr => by
  rw [SK] at hr
  by_cases hm : x.elem ∈ a :: st.map (·.elem) \/ st.length = 12
  .rw [if_pos hm] at hr; simp at hr
  rw [if_neg hm] at hr
  have hm1 : x.elem ∉ a :: st.map (·.elem) := fun h => hm (.inl h)
  have hm2 : ¬ (x.elem ≠ x.elem \/ x.fin ≠ x.fin \/ x.elem = a \/ x.elem ∈ st.map (·.elem)) := by
   rintro (h1 | h1 | h1 | h1)
   .exact h1 rfl
   .exact h1 rfl
   .exact hm1 (by rw [h1]; simp)
   exact hm1 (List.mem_cons_of_mem _ h1)
  have hlen : st.length < 12 := by
   have : st.length ≠ 12 := fun h => hm (.inr h)
   omega
  by_cases k4 : BM p x.elem = 4
  .rw [if_pos k4] at hr
   simp at hr
   subst hr
   refine ⟨[⟨x.elem, x.fin, -1⟩], ⟨rfl, rfl, rfl, rfl, rfl, rfl, by simp, by simp [IJ]; omega, ?_, ?_⟩, _, _, rfl, rfl, rfl⟩
   .simp only [DN, if_neg hm2, if_pos k4, IJ, true_and, if_true]
   intro l hl
   simp at hl
   subst hl
   simp [Lq, k4, IJ]
  rw [if_neg k4] at hr
  obtain ⟨w, hw, hr⟩ := List.mem_flatMap.1 hr
  have hway := SL (Qa p x.elem x.fin) hw
  unfold SJ at hr
  by_cases hrd : 0 <= Bg p ⟨x.elem, w.out⟩
  .rw [if_pos hrd] at hr
   simp at hr
   subst hr
   refine ⟨[⟨x.elem, x.fin, w.out⟩], ⟨rfl, rfl, rfl, rfl, rfl, rfl, by simp, by simp [IJ]; omega, ?_, ?_⟩, _, _, rfl, rfl, rfl⟩
   .unfold DN; rw [if_neg hm2, if_neg k4, hway]; simp [DN, IJ]
   intro l hl
   simp at hl
   subst hl
   simp [Lq, k4, IJ, hrd]
  rw [if_neg hrd] at hr
  cases hnx : BT p ⟨x.elem, w.out⟩ with
  | none =>
   rw [hnx] at hr
   simp at hr
   subst hr
   refine ⟨[⟨x.elem, x.fin, w.out⟩], ⟨rfl, rfl, rfl, rfl, rfl, rfl, by simp, by simp [IJ]; omega, ?_, ?_⟩, _, _, rfl, rfl, rfl⟩
   .unfold DN; rw [if_neg hm2, if_neg k4, hway]; simp [DN, IJ]
   intro l hl
   simp at hl
   subst hl
   simp [Lq, k4, IJ, hrd, hnx]
  | some y =>
   rw [hnx] at hr
   have hmm : a :: st.map (·.elem) ++ [x.elem] = a :: (st ++ [(⟨x.elem, x.fin, w.out⟩ : Ax)]).map (·.elem) := by simp
   simp only at hr
   rw [hmm] at hr
   obtain ⟨t, ht, u, t', htu, -, -⟩ := OR s a k (st ++ [⟨x.elem, x.fin, w.out⟩]) (KO nd x.elem w.pos) y r (by simp; omega) hr
   refine ⟨⟨x.elem, x.fin, w.out⟩ :: t, ⟨ht.frm, ht.guards, ht.zone, ht.holds, ht.bare, by rw [ht.steps]; simp, by simp, ht.len, ?_, ?_⟩, _, _, rfl, rfl, rfl⟩
   .unfold DN
    rw [if_neg hm2, if_neg k4, hway]
    dsimp only
    rw [if_neg (fun h => hrd h.2), hnx]
    exact ht.all
   intro l hl
   refine ht.tail l ?_
   rw [htu] at hl ⊢
   rwa [List.getLast?_cons_cons] at hl
theorem Hq {s : Int} {r : AV} (h : r ∈ MC p s) : Tb p r = true /\ r.frm = s /\ r.guards = [] /\ r.zone = [] /\ r.holds = [] /\ r.bare = false /\ r.steps.length <= 12 /\ 1 <= r.steps.length /\ r.needs.length <= 12 := by
 unfold MC at h
 cases hi : Ar p.signals s with
 | none => rw [hi] at h; simp at h
 | some sg =>
  rw [hi] at h
  simp only at h
  cases hx : BT p sg.at_ with
  | none => rw [hx] at h; simp at h
  | some y =>
   rw [hx] at h
   simp only at h
   obtain ⟨t, ht, -⟩ := OR s sg.at_.elem 13 [] [] y r rfl (by simpa using h)
   have hst : r.steps = t := by rw [ht.steps]; rfl
   have hlen : 1 <= r.steps.length := by
    rw [hst]
    exact List.length_pos_iff.2 ht.ne
   have hl2 := ht.len
   have hnl := PS ht.all
   rw [<- hst] at hnl
   simp only [List.length_nil] at hnl
   refine ⟨?_, ht.frm, ht.guards, ht.zone, ht.holds, ht.bare, ht.len, hlen, by omega⟩
   unfold Tb
   rw [ht.frm, hi]
   simp only
   rw [if_neg (by omega), hx, hst, ht.all]
   obtain ⟨l, hl⟩ : ∃ l, t.getLast? = some l := by
    rw [List.getLast?_eq_getElem?]
    rw [hst] at hlen
    exact ⟨_, List.getElem?_eq_getElem (by omega)⟩
   simp only [hl, ht.tail l hl, decide_true, Bool.and_true]
theorem Qb (s a : Int) (k : Nat) (st : List Ax) (nd : List AN) (x : AK) (w : De) (r : AV) (hk : st.length + (k + 1) = 13) (h : r ∈ SJ p s k st nd x (a :: st.map (·.elem)) w) : r.steps[st.length]? = some ⟨x.elem, x.fin, w.out⟩ := by
 unfold SJ at h
 split at h
 .simp at h; subst h; simp [IJ]
 split at h
 .simp at h; subst h; simp [IJ]
 rename_i y hy
 have hmm : a :: st.map (·.elem) ++ [x.elem] = a :: (st ++ [(⟨x.elem, x.fin, w.out⟩ : Ax)]).map (·.elem) := by simp
 rw [hmm] at h
 obtain ⟨t, ht, -⟩ := OR s a k _ _ y r (by simp; omega) h
 rw [ht.steps]; simp
theorem Qc (s a : Int) : ∀ (k : Nat) (st : List Ax) (nd : List AN) (x : AK), st.length + k = 13 -> (QZ p s k st nd x (a :: st.map (·.elem))).Nodup
 | 0, st, nd, x, hk => by simp [QZ]
 | k + 1, st, nd, x, hk => by
  rw [SK]
  split
  .simp
  split
  .simp
  unfold List.Nodup; rw [List.pairwise_flatMap]
  refine ⟨fun w hw => ?_, ?_⟩
  .unfold SJ
   split
   .simp
   split
   .simp
   rename_i y hy
   have hmm : a :: st.map (·.elem) ++ [x.elem] = a :: (st ++ [(⟨x.elem, x.fin, w.out⟩ : Ax)]).map (·.elem) := by simp
   rw [hmm]
   exact Qc s a k _ _ y (by simp; omega)
  refine (Qa p x.elem x.fin).imp fun {w v} hwv => ?_
  rintro r hr1 r2 hr2 rfl
  have h1 := Qb s a k st nd x w r (by omega) hr1
  have h2 := Qb s a k st nd x v r (by omega) hr2
  rw [h1] at h2
  simp at h2
  exact hwv h2
theorem VK (s : Int) : (MC p s).Nodup := by
 unfold MC
 split
 .simp
 split
 .simp
 rename_i sg _ _ y _
 have := Qc (p := p) s sg.at_.elem 13 [] [] y rfl
 simpa using this
end
end Go.E
/- Plain Lean: RoadOfs, RoadAlls, RoadIsOne, RoadTurned and RoadEach answer true, for every argument. No condition. -/
namespace Go.E
open Go
section
variable {p : AW} {n : CT}
def Lr (p : AW) (i : Nat) : List AV := (List.range i).flatMap fun (s : Nat) => MC p (s : Int)
def SM (p : AW) : List AV := Lr p p.signals.length
theorem VL (i : Nat) : Lr p (i + 1) = Lr p i ++ MC p (i : Int) := by
 unfold Lr
 rw [List.range_succ, List.flatMap_append]; simp
end
end Go.E
/- Plain Lean: RoadRuns answers true, for every argument. No condition. -/
namespace Go.E
open Go
def WM (pos : List Int) (e : Int) : Int := (Ar pos e).getD 0
section
variable {p : AW} {n : CT}
theorem UP {e : Int} (h : BM p e ≠ 0) : 0 <= e /\ e < p.elems.length := by
 unfold BM at h
 cases hi : Ar p.elems e with
 | none => rw [hi] at h; simp at h
 | some a => exact TV hi
theorem Jz {r : AV} (h : Tb p r = true) : ∃ sg nd l, Ar p.signals r.frm = some sg /\ 1 <= r.steps.length /\ r.steps.length <= 12 /\ DN p sg.at_.elem (BT p sg.at_) [] [] r.steps = some nd /\ r.steps.getLast? = some l /\ Lq p r.fin r.to l = true /\ r.needs = nd := by
 unfold Tb at h
 cases hi : Ar p.signals r.frm with
 | none => rw [hi] at h; cases h
 | some sg =>
  rw [hi] at h
  simp only at h
  split at h
  .cases h
  cases hs : DN p sg.at_.elem (BT p sg.at_) [] [] r.steps with
  | none => rw [hs] at h; cases h
  | some nd =>
   rw [hs] at h
   cases hl : r.steps.getLast? with
   | none => rw [hl] at h; cases h
   | some l =>
    rw [hl] at h
    simp only [Bool.and_eq_true, decide_eq_true_eq] at h
    exact ⟨sg, nd, l, rfl, by omega, by omega, hs, rfl, h.1, h.2⟩
end
end Go.E
/- Plain Lean: RoadRuns answers true, for every argument. No condition. -/
namespace Go.E
open Go
section
variable {p : AW} {n : CT}
end
end Go.E
/- Plain Lean: RoadWhole answers true, for every argument. No condition. -/
namespace Go.E
open Go
section
variable {p : AW} {n : CT}
end
end Go.E
/- Reach hands the keys of a map out in whatever order and sorts them: what it answers has no order in it; the example that the laws of sides AE at. No condition. -/
namespace Go.E
open Go Go.Proofs
theorem Nw {a b : List Int} (h : a.Perm b) : Dl a = Dl b :=
 List.Perm.eq_of_pairwise (le := fun a b : Int => a <= b) (fun a b _ _ h1 h2 => Int.le_antisymm h1 h2) (HK a) (HK b) ((Ch a).trans (h.trans (Ch b).symm))
theorem HL {α : Type} : ∀ {l : List α} {j : Nat} {y : α}, l[j]? = some y -> (y :: l.eraseIdx j).Perm l
 | x :: l, 0, y, h => by
  rw [List.getElem?_cons_zero] at h
  cases h
  rw [List.eraseIdx_cons_zero]
 | x :: l, j + 1, y, h => by
  rw [List.getElem?_cons_succ] at h
  rw [List.eraseIdx_cons_succ]
  exact (List.Perm.swap x y _).trans ((HL h).cons x)
set_option maxRecDepth 100000
end Go.E
/- Plain Lean: the ports on the sides of a road, and what is its own: the program's answer and the document's are one (laws SidePorts, SideOwns). No condition. -/
namespace Go.E
open Go
theorem WO {l : List Ax} {e : Int} : decide (e ∈ l.map (·.elem)) = (l.find? fun s => s.elem == e).isSome := by
 induction l with
 | nil => simp
 | cons a l ih =>
  rw [List.find?_cons]
  by_cases c : a.elem = e
  .simp [c]
  have : (a.elem == e) = false := beq_eq_false_iff_ne.2 c
  rw [this]
  simp only [List.map_cons, List.mem_cons, Ne.symm c, false_or]
  exact ih
theorem YY (r : AV) (hl : r.steps.length < 1000000) (e : Int) : Lb r e = some (decide (e ∈ r.steps.map (·.elem))) := by
 unfold Lb
 obtain ⟨t, h1, h2⟩ := HO (l := r.steps) (f := fun s => s.elem == e) hl (step := Gi r e) (by simp [Gi]) (fun i a ha => by
  have := Cl ha
  simp only [Gi, My, Cc ha, cond_true, A0, ha, Option.bind_some, As (show i < 1000000000 by omega)]
  by_cases c : a.elem = e
  .simp [c]
  have : (a.elem == e) = false := beq_eq_false_iff_ne.2 c
  simp [this])
 rw [h1, WO]
 simp only [Option.bind_some, Option.some.injEq]
 rcases h2 with ⟨rfl, h2⟩ | ⟨a, h0, h2, _⟩
 .rw [h2]; rfl
 rw [h2]; simp [h0]
theorem Qd {α β γ : Type} (B : Nat) {l : List α} (f : α -> List β) (hf : ∀ a, (f a).length <= 4) (hl : l.length <= 100000) {step : Int × List β -> Option (Int × List β ⊕ γ)} {fin : List β -> γ}
  (h0 : ∀ o, step ((l.length : Int), o) = some (.inr (fin o))) (h1 : ∀ (i : Nat) a o, l[i]? = some a -> o.length <= B + 400000 -> step ((i : Int), o) = some (.inl (((i + 1 : Nat) : Int), o ++ f a))) (o : List β) (ho : o.length <= B) :
  AY step ((0 : Int), o) = some (fin (o ++ l.flatMap f)) := by
 have hlen : ∀ i, ((l.take i).flatMap f).length <= i * 4 := by
  intro i
  induction i with
  | zero => simp
  | succ i ih =>
   rw [List.take_add_one, List.flatMap_append, List.length_append]
   cases h : l[i]? with
   | none => simp only [Option.toList_none, List.flatMap_nil, List.length_nil]; omega
   | some a =>
    have := hf a
    simp only [Option.toList_some, List.flatMap_cons, List.flatMap_nil, List.append_nil]
    omega
 obtain ⟨b, h2, rfl⟩ := GF (l := l) (step := step) (Post := fun b => b = fin (o ++ l.flatMap f)) (fun i c => c = o ++ (l.take i).flatMap f) (c := o)
  (fun c hc => ⟨fin c, h0 c, by rw [hc, List.take_length]⟩)
  (fun i a c ha hc => by
   have hi := Cl ha
   have := hlen i
   refine .inr ⟨c ++ f a, h1 i a c ha (by rw [hc, List.length_append]; omega), ?_⟩
   rw [hc, List.take_add_one, ha]
   simp only [Option.toList_some, List.flatMap_append, List.flatMap_cons, List.flatMap_nil, List.append_nil, List.append_assoc])
  (by simp)
 exact h2
section
variable {p : AW} {n : CT}
def Ls (p : AW) (s : Ax) : List Int :=
 if BM p s.elem = 2 then [Ak (3 - (if s.out > s.in_ then s.out else s.in_))] else if BM p s.elem = 3 then (if 1 < s.in_ then [0, 1] else [2, 3]) else []
def J0 (p : AW) (e : Int) (k : Int) : List AK := if (BT p ⟨e, k⟩).isSome then [⟨e, k⟩] else []
def Kx (p : AW) (s : Ax) : List AK := (Ls p s).flatMap (J0 p s.elem)
def Ep (p : AW) (l : List Ax) : List AK := l.flatMap (Kx p)
theorem Qe (s : Ax) : (Ls p s).length <= 2 := by
 unfold Ls
 split
 .simp
 split
 .split <;> simp
 simp
theorem Qf (e k : Int) : (J0 p e k).length <= 1 := by unfold J0; split <;> simp
theorem PT (s : Ax) : (Kx p s).length <= 2 := by
 have := NC (J0 p s.elem) 1 (Ls p s) fun k _ => Qf s.elem k
 have := Qe (p := p) s
 unfold Kx
 omega
theorem PU (l : List Ax) : (Ep p l).length <= l.length * 2 := NC _ 2 l fun s _ => PT s
theorem WP (hn : FE p n) (s : Ax) (c : Int × List AK) (ks : List Int) (hk : ks.length <= 10) (o : List AK) (ho : o.length <= 400000) :
  AY (Fh n c s ks) (0, o) = some (.inl (Ak (c.1 + 1), o ++ ks.flatMap (J0 p s.elem))) := by
 refine Qd 400000 (l := ks) (J0 p s.elem) (fun k => by have := Qf (p := p) s.elem k; omega) (by omega) (fin := fun o => (Sum.inl (Ak (c.1 + 1), o) : (Int × List AK) ⊕ List AK)) (fun o => ?_) (fun i a o ha hb => ?_) o ho
 .simp only [Fh, Dw, cond_false]
 have := Cl ha
 simp only [Fh, Cc ha, cond_true, A0, ha, Option.bind_some, OQ hn, As (show i < 1000000000 by omega)]
 unfold J0
 cases (BT p ⟨s.elem, a⟩).isSome with
 | true => simp [BY (show o.length + [(⟨s.elem, a⟩ : AK)].length <= 4294967296 by simp; omega)]
 | false => simp
theorem WQ (hn : FE p n) (r : AV) (hl : r.steps.length <= 1000) : JM n r = some (Ep p r.steps) := by
 unfold JM
 rw [show Ep p r.steps = ([] : List AK) ++ r.steps.flatMap (Kx p) from rfl]
 refine Qd 0 (l := r.steps) (Kx p) (fun s => by have := PT (p := p) s; omega) (by omega) (fin := fun o => o) (fun o => ?_) (fun i s o ha hb => ?_) [] (by simp)
 .simp only [HD, Dw, cond_false]
 have hi := Cl ha
 simp only [HD, Cc ha, cond_true, A0, ha, Option.bind_some, OP hn]
 have e : (bif (BM p s.elem == 2) then some [Ak (3 - (if s.out > s.in_ then s.out else s.in_))] else bif (BM p s.elem == 3) then bif decide (1 < s.in_) then some [0, 1] else some [2, 3] else some ([] : List Int) : Option (List Int)) = some (Ls p s) := by
  unfold Ls
  by_cases c2 : BM p s.elem = 2
  .simp [c2]
  have b2 : (BM p s.elem == 2) = false := beq_eq_false_iff_ne.2 c2
  by_cases c3 : BM p s.elem = 3
  .by_cases d : 1 < s.in_ <;> simp [b2, c2, c3, d]
  have b3 : (BM p s.elem == 3) = false := beq_eq_false_iff_ne.2 c3
  simp [b2, b3, c2, c3]
 rw [e]
 have hk := Qe (p := p) s
 simp only [Option.bind_some, WP hn s ((i : Int), o) (Ls p s) (by omega) o (by omega), As (show i < 1000000000 by omega)]
 rfl
theorem NE {s : Int} {r : AV} (h : r ∈ MC p s) : r.steps.length <= 12 := (Hq h).2.2.2.2.2.2.1
end
end Go.E
/- Plain Lean: which ports lie on the sides of a road (law SideApart). No condition. -/
namespace Go.E
open Go
section
variable {p : AW} {n : CT}
end
end Go.E
/- Plain Lean: what the sides of a road reach, told without an order (MD, Ir): the program's answer. No condition. -/
namespace Go.E
open Go
def Br (vis : List (AK × Bool)) (x : AK) : Bool := (Aj vis x).getD false
theorem GH (vis : List (AK × Bool)) (x y : AK) : Br (BO x true vis) y = true ↔ y = x \/ Br vis y = true := by
 unfold Br
 rw [FY]
 by_cases e : y = x <;> simp [e]
theorem KP {α : Type} {P P' : α -> Bool} (hpp : ∀ z, P' z = true -> P z = true) : ∀ l : List α, (l.filter P').length <= (l.filter P).length /\ ∀ x ∈ l, P x = true -> P' x = false -> (l.filter P').length + 1 <= (l.filter P).length
 | [] => ⟨Nat.le_refl _, by simp⟩
 | a :: l => by
  obtain ⟨h1, h2⟩ := KP hpp l
  rw [List.filter_cons, List.filter_cons]
  by_cases c : P' a = true
  .rw [if_pos c, if_pos (hpp a c)]
   simp only [List.length_cons]
   refine ⟨by omega, fun x hx hp hp' => ?_⟩
   rcases List.mem_cons.1 hx with rfl | hx
   .rw [c] at hp'; cases hp'
   have := h2 x hx hp hp'; omega
  rw [if_neg c]
  by_cases d : P a = true
  .rw [if_pos d]
   simp only [List.length_cons]
   exact ⟨by omega, fun x hx hp hp' => by omega⟩
  rw [if_neg d]
  refine ⟨h1, fun x hx hp hp' => ?_⟩
  rcases List.mem_cons.1 hx with rfl | hx
  .exact absurd hp d
  exact h2 x hx hp hp'
section
variable {p : AW} {n : CT}
def Nf (p : AW) (shut : List Bool) (x : AK) : Bool := decide (0 <= Bg p x) && (Ar shut (Bg p x)).getD false
inductive MD (p : AW) (pos : List Int) (shut : List Bool) (st : List Ax) : AK -> Prop
 | init {x y : AK} : x ∈ Ep p st -> BT p x = some y -> MD p pos shut st y
 | step {x y : AK} {o : Int} : MD p pos shut st x -> x.elem ∉ st.map (·.elem) -> Nf p shut x = false -> BM p x.elem ≠ 4 -> EB p x.elem x.fin (WM pos x.elem) = some o -> BT p ⟨x.elem, o⟩ = some y -> MD p pos shut st y
def Ir (p : AW) (pos : List Int) (shut : List Bool) (st : List Ax) (e : Int) : Prop :=
 ∃ x, MD p pos shut st x /\ x.elem = e /\ e ∉ st.map (·.elem) /\ Nf p shut x = false /\ (BM p e = 4 \/ (EB p e x.fin (WM pos e)).isSome = true)
variable {pos : List Int} {shut : List Bool} {r : AV}
theorem MD.from {st : List Ax} {y : AK} (h : MD p pos shut st y) : ∃ x, BT p x = some y := by
 cases h with
 | init h1 h2 => exact ⟨_, h2⟩
 | step _ _ _ _ _ h2 => exact ⟨_, h2⟩
theorem VO {x : AK} (h : HM p x = true) : 0 <= x.elem /\ x.elem < p.elems.length := by
 obtain ⟨h1, h2, h3⟩ := Lo h
 refine UP fun e => ?_
 rw [e] at h3
 simp [Fi] at h3
 omega
def PV (vis : List (AK × Bool)) (zone : List (Int × Bool)) (p : AW) (y : AK) : Prop := Br vis y = true \/ (BM p y.elem = 4 /\ (Aj zone y.elem).isSome = true)
def UQ (p : AW) (pos : List Int) (shut : List Bool) (st : List Ax) (q : List AK) (vis : List (AK × Bool)) (zone : List (Int × Bool)) (x : AK) : Prop :=
 x.elem ∉ st.map (·.elem) -> Nf p shut x = false -> BM p x.elem ≠ 4 /\ ∀ o, EB p x.elem x.fin (WM pos x.elem) = some o -> (Aj zone x.elem).isSome = true /\ ∀ y, BT p ⟨x.elem, o⟩ = some y -> y ∈ q \/ PV vis zone p y
def PW (p : AW) (vis : List (AK × Bool)) : Nat := ((C2 p).filter fun x => !Br vis x).length
structure RI (p : AW) (pos : List Int) (shut : List Bool) (st : List Ax) (M k : Nat) (q : List AK) (vis : List (AK × Bool)) (zone : List (Int × Bool)) : Prop where
 arr : ∀ x ∈ q, MD p pos shut st x
 full : ∀ x, Br vis x = true -> UQ p pos shut st q vis zone x
 init : ∀ x y, x ∈ Ep p st -> BT p x = some y -> y ∈ q \/ PV vis zone p y
 zon : ∀ e, (Aj zone e).isSome = true -> Ir p pos shut st e
 nodup : (zone.map (·.1)).Nodup
 len : zone.length <= k
 meas : k + q.length + 2 * PW p vis <= M
theorem RI.next {st : List Ax} {M k : Nat} {x : AK} {q q' : List AK} {vis vis' : List (AK × Bool)} {zone zone' : List (Int × Bool)} (h : RI p pos shut st M k (x :: q) vis zone)
  (hq : ∀ y ∈ q, y ∈ q') (hq2 : ∀ y ∈ q', MD p pos shut st y) (hv : ∀ y, Br vis y = true -> Br vis' y = true) (hv2 : ∀ y, Br vis' y = true -> Br vis y = true \/ y = x)
  (hz : ∀ e, (Aj zone e).isSome = true -> (Aj zone' e).isSome = true) (hz2 : ∀ e, (Aj zone' e).isSome = true -> Ir p pos shut st e) (hz3 : (zone'.map (·.1)).Nodup) (hz4 : zone'.length <= zone.length + 1)
  (hx : PV vis' zone' p x) (hf : Br vis' x = true -> Br vis x = false -> UQ p pos shut st q' vis' zone' x) (hm : q'.length + 2 * PW p vis' <= q.length + 2 * PW p vis) : RI p pos shut st M (k + 1) q' vis' zone' := by
 have keep : ∀ y, (y ∈ x :: q \/ PV vis zone p y) -> y ∈ q' \/ PV vis' zone' p y := by
  rintro y (hy | hy | ⟨hy, hy2⟩)
  .rcases List.mem_cons.1 hy with rfl | hy
   .exact .inr hx
   exact .inl (hq y hy)
  .exact .inr (.inl (hv y hy))
  exact .inr (.inr ⟨hy, hz _ hy2⟩)
 refine ⟨hq2, fun y hy => ?_, fun a y ha hy => keep y (h.init a y ha hy), hz2, hz3, by have := h.len; omega, by have := h.meas; simp only [List.length_cons] at this; omega⟩
 have old : Br vis y = true -> UQ p pos shut st q' vis' zone' y := fun hy => fun h1 h2 => by
  obtain ⟨g1, g2⟩ := h.full y hy h1 h2
  exact ⟨g1, fun o ho => ⟨hz _ (g2 o ho).1, fun z hz' => keep z ((g2 o ho).2 z hz')⟩⟩
 rcases hv2 y hy with hy' | rfl
 .exact old hy'
 cases c : Br vis y with
 | true => exact old c
 | false => exact hf hy c
end
end Go.E
/- Plain Lean: the elements that Reach answers are those of Ir, ascending (laws SideShut, SideRuns). No condition. -/
namespace Go.E
open Go
theorem M9 {l : List Int} (h : l.Nodup) : (Dl l).Pairwise (· < ·) := by
 have h1 := HK l
 have h2 : (Dl l).Nodup := (Ch l).nodup_iff.2 h
 exact (h1.and h2).imp fun {a b} ⟨x, y⟩ => by omega
section
variable {p : AW} {n : CT} {pos : List Int} {shut : List Bool} {r : AV}
theorem YZ {vis : List (AK × Bool)} (x : AK) : PW p (BO x true vis) <= PW p vis :=
 (KP (fun z hz => by
  cases hs : Br vis z with
  | false => rfl
  | true =>
   have := (GH vis x z).2 (.inr hs)
   simp only [this, Bool.not_true] at hz
   cases hz) (C2 p)).1
theorem Ya {vis : List (AK × Bool)} {x : AK} (hx : x ∈ C2 p) (hv : Br vis x = false) : PW p (BO x true vis) + 1 <= PW p vis :=
 (KP (fun z hz => by
  cases hs : Br vis z with
  | false => rfl
  | true =>
   have := (GH vis x z).2 (.inr hs)
   simp only [this, Bool.not_true] at hz
   cases hz) (C2 p)).2 x hx (by simp [hv]) (by simp [(GH vis x x).2 (.inl rfl)])
def HR (p : AW) (l : List AK) : List AK := l.map fun x => (BT p x).getD ⟨0, 0⟩
theorem SO {l : List Ax} {x : AK} (h : x ∈ Ep p l) : ∃ y, BT p x = some y := by
 unfold Ep Kx at h
 obtain ⟨s, _, h⟩ := List.mem_flatMap.1 h
 obtain ⟨k, _, h⟩ := List.mem_flatMap.1 h
 unfold J0 at h
 split at h
 .rename_i hs
  simp at h
  subst h
  exact Option.isSome_iff_exists.1 hs
 simp at h
theorem Qg {a b : List Bool} (h : ∀ j : Nat, a[j]? = some true -> b[j]? = some true) {x : AK} (hs : Nf p b x = false) : Nf p a x = false := by
 unfold Nf at *
 by_cases c : 0 <= Bg p x
 .obtain ⟨i, hi⟩ := Int.eq_ofNat_of_zero_le c
  rw [hi] at hs ⊢
  simp only [A0, Int.natCast_nonneg, decide_true, Bool.true_and] at hs ⊢
  cases ha : a[i]? with
  | none => rfl
  | some v =>
   cases v with
   | false => rfl
   | true => rw [h i ha] at hs; cases hs
 simp [c]
theorem MD.mono {a b : List Bool} (h : ∀ j : Nat, a[j]? = some true -> b[j]? = some true) {st : List Ax} {x : AK} (hx : MD p pos b st x) : MD p pos a st x := by
 induction hx with
 | init h1 h2 => exact .init h1 h2
 | step h1 h2 h3 h4 h5 h6 ih => exact .step ih h2 (Qg h h3) h4 h5 h6
theorem Ir.mono {a b : List Bool} (h : ∀ j : Nat, a[j]? = some true -> b[j]? = some true) {st : List Ax} {e : Int} (hx : Ir p pos b st e) : Ir p pos a st e := by
 obtain ⟨x, h1, h2, h3, h4, h5⟩ := hx
 exact ⟨x, h1.mono h, h2, h3, Qg h h4, h5⟩
theorem Ir.range (hv : HQ p) {st : List Ax} {e : Int} (h : Ir p pos shut st e) : 0 <= e /\ e < p.elems.length := by
 obtain ⟨x, h1, rfl, _⟩ := h
 obtain ⟨w, hw⟩ := h1.from
 exact VO (hv.join.next hw)
end
end Go.E
/- Plain Lean: what is reached is in order, outside the road, and no more if more signals are shut (law SideShut); a run that comes in from the side begins in it (law SideRuns). No condition. -/
namespace Go.E
open Go
section
variable {p : AW} {n : CT} {pos : List Int} {shut : List Bool} {r : AV}
end
end Go.E
/- Plain Lean: a run that comes in from the side begins in an element that is reached (law SideRuns). No condition. -/
namespace Go.E
open Go
theorem Lt {x : AK} : ∀ {l m : List B9}, x ∉ (l.flatMap fun j => [j.a, j.b]) -> HN (l ++ m) x = HN m x
 | [], m, _ => rfl
 | j :: l, m, h => by
  simp only [List.flatMap_cons, List.mem_append, List.mem_cons, List.not_mem_nil, or_false, not_or] at h
  obtain ⟨⟨h1, h2⟩, h3⟩ := h
  simp only [List.cons_append, HN]
  rw [if_neg (fun e => h1 e.symm), if_neg (fun e => h2 e.symm)]
  exact Lt h3
theorem N0 {x y : AK} : ∀ {l : List B9}, HN l x = some y -> ∃ l1 j l2, l = l1 ++ j :: l2 /\ ((j.a = x /\ j.b = y) \/ (j.b = x /\ j.a = y))
 | j :: l, h => by
  simp only [HN] at h
  split at h
  .rename_i e; cases h; exact ⟨[], j, l, rfl, .inl ⟨e, rfl⟩⟩
  split at h
  .rename_i e; cases h; exact ⟨[], j, l, rfl, .inr ⟨e, rfl⟩⟩
  obtain ⟨l1, k, l2, e, hk⟩ := N0 h
  exact ⟨j :: l1, k, l2, by rw [e]; rfl, hk⟩
section
variable {p : AW} {n : CT} {pos : List Int} {shut : List Bool} {r : AV}
theorem Sw (hj : Lp p) : (C2 p).Nodup := by
 rw [List.Nodup, List.pairwise_iff_getElem]
 intro i k hi hk hlt
 exact hj.dist k i _ _ hlt (List.getElem?_eq_getElem hk) (List.getElem?_eq_getElem hi)
theorem Qh (hj : Lp p) {x y : AK} (h : BT p x = some y) : BT p y = some x := by
 obtain ⟨l1, j, l2, e, hk⟩ := N0 h
 have hnd := Sw hj
 unfold C2 at hnd
 unfold BT
 rw [e] at hnd ⊢
 rw [List.flatMap_append, List.flatMap_cons, List.nodup_append] at hnd
 obtain ⟨_, h2, h3⟩ := hnd
 have ha : j.a ∉ l1.flatMap fun j => [j.a, j.b] := fun hm => h3 _ hm _ (by simp) rfl
 have hb : j.b ∉ l1.flatMap fun j => [j.a, j.b] := fun hm => h3 _ hm _ (by simp) rfl
 have hab : j.a ≠ j.b := by
  rw [List.nodup_append] at h2
  have := h2.1
  simpa using this
 rcases hk with ⟨rfl, rfl⟩ | ⟨rfl, rfl⟩
 .rw [Lt hb]
  simp [HN, hab]
 rw [Lt ha]
 simp [HN]
end
end Go.E
/- Plain Lean: what the sides of a road reach: the document's answer and the program's are one (law SideReaches). No condition. -/
namespace Go.E
open Go
section
variable {p : AW} {n : CT} {pos : List Int} {shut : List Bool} {r : AV}
end
end Go.E
/- The example that the laws of flanks AE at, reckoned by the kernel. No condition. -/
namespace Go.E
open Go Go.Proofs
set_option maxRecDepth 100000
end Go.E
/- The example that the laws of proofs AE at, reckoned by the kernel. No condition. -/
namespace Go.E
open Go Go.Proofs
set_option maxRecDepth 100000
end Go.E
/- Plain Lean: the flank of a road: how its search begins; a road without side ports (law FlankNone). No condition. -/
namespace Go.E
open Go
theorem HS (l : List Int) (hl : l.length < 1000000) (x : Int) : Bc l x = some (decide (x ∈ l)) := by
 unfold Bc CY
 obtain ⟨t, h1, h2⟩ := HO (l := l) (f := fun a => x == a) hl (step := B7 l x) (by simp [B7]) (fun i a ha => by
  have := Cl ha
  simp only [B7, Cc ha, cond_true, A0, ha, Option.bind_some, As (show i < 1000000000 by omega)]
  cases hb : (x == a) <;> simp)
 rw [h1]
 simp only [Option.bind_some, Option.some.injEq]
 rcases h2 with ⟨rfl, h2⟩ | ⟨a, h0, h2, _⟩
 .have : x ∉ l := fun h => by have := List.find?_eq_none.1 h2 x h; simp at this
  simp [this]
 have hm := List.mem_of_find?_eq_some h2
 have he := List.find?_some h2
 simp only [beq_iff_eq] at he
 subst he
 simp [h0, hm]
theorem ME (l : List AN) (hl : l.length < 1000000) (x : AN) : CS l x = some (decide (x ∈ l)) := by
 unfold CS GY
 obtain ⟨t, h1, h2⟩ := HO (l := l) (f := fun a => x == a) hl (step := C4 l x) (by simp [C4]) (fun i a ha => by
  have := Cl ha
  simp only [C4, Cc ha, cond_true, A0, ha, Option.bind_some, As (show i < 1000000000 by omega)]
  cases hb : (x == a) <;> simp)
 rw [h1]
 simp only [Option.bind_some, Option.some.injEq]
 rcases h2 with ⟨rfl, h2⟩ | ⟨a, h0, h2, _⟩
 .have : x ∉ l := fun h => by have := List.find?_eq_none.1 h2 x h; simp at this
  simp [this]
 have hm := List.mem_of_find?_eq_some h2
 have he := List.find?_some h2
 simp only [beq_iff_eq] at he
 subst he
 simp [h0, hm]
section
variable {p : AW} {n : CT} {r : AV}
theorem Sx (hv : HQ p) (hn : FE p n) (h1 : r.steps.length <= 12) (h2 : r.needs.length <= 1000) : HF n r = AY (Dq n r r.steps r.needs p) (false, [], [], [], [], (HR p (Ep p r.steps)).reverse) := by
 unfold HF
 have e1 : GW r.steps = some r.steps := Ds _ (by omega)
 have e2 : BP r.needs = some r.needs := Ds _ (by omega)
 have e3 : Hh n = some p := by unfold Hh; rw [hn.plan, XN p hv.few]; rfl
 simp only [e1, e2, e3, Option.bind_some, WQ hn (⟨r.frm, r.to, r.fin, r.steps, r.needs, [], [], [], false⟩ : AV) (show r.steps.length <= 1000 by omega)]
 have hp := PU (p := p) r.steps
 generalize hL : Ep p r.steps = L at hp
 have key : ∀ (k : Nat) (q : List AK), k <= L.length -> q = (HR p (L.drop k)).reverse -> AY (FR n r r.steps r.needs p L) ((k : Int) - 1, q) = AY (Dq n r r.steps r.needs p) (false, [], [], [], [], (HR p L).reverse) := by
  intro k
  induction k with
  | zero =>
   intro q _ hq
   rw [List.drop_zero] at hq
   subst hq
   cases hr : AY (Dq n r r.steps r.needs p) (false, [], [], [], [], (HR p L).reverse) with
   | some b =>
    refine B8 ?_
    have d : decide ((0 : Int) <= ((0 : Nat) : Int) - 1) = false := by decide
    simp only [FR, d, cond_false, hr, Option.map_some]
   | none =>
    rw [JD]
    have d : decide ((0 : Int) <= ((0 : Nat) : Int) - 1) = false := by decide
    simp only [FR, d, cond_false, hr, Option.map_none]
  | succ k ih =>
   intro q hk hq
   obtain ⟨x, hx⟩ : ∃ x, L[k]? = some x := ⟨_, List.getElem?_eq_getElem (by omega)⟩
   have hql : q.length <= 24 := by rw [hq]; unfold HR; simp; omega
   have hd : L.drop k = x :: L.drop (k + 1) := by
    obtain ⟨h, e⟩ := List.getElem?_eq_some_iff.1 hx
    rw [List.drop_eq_getElem_cons h, e]
   rw [<- ih (q ++ [(BT p x).getD ⟨0, 0⟩]) (by omega) (by rw [hd, hq]; unfold HR; simp)]
   refine CJ ?_
   have d : decide ((0 : Int) <= (k : Int)) = true := decide_eq_true (by omega)
   have e : (((k + 1 : Nat) : Int) - 1) = (k : Int) := by omega
   have w : Ak ((k : Int) - 1) = (k : Int) - 1 := by rw [DW] <;> omega
   simp only [FR, d, cond_true, e, A0, hx, Option.bind_some, OQ hn, BY (show q.length + [(BT p x).getD (⟨0, 0⟩ : AK)].length <= 4294967296 by simp; omega), w]
 have w : Ak ((L.length : Int) - 1) = (L.length : Int) - 1 := by rw [DW] <;> omega
 rw [w]
 exact key L.length [] (Nat.le_refl _) (by simp [HR])
end
end Go.E
/- Plain Lean: the flank of a road: one round of its search; what holds behind it. No condition. -/
namespace Go.E
open Go
section
variable {p : AW} {n : CT} {r : AV}
def DK (b : Bool) (z : List Int) (e : Int) : Bool × Bool × List Int := if e ∈ z then (true, b, z) else if 12 <= z.length then (false, true, z) else (true, b, z ++ [e])
def EP (p : AW) (l : List AK) (x : AK) : List AK := match BT p x with
 | some y => l ++ [y]
 | none => l
abbrev FS := Bool × List (AK × Bool) × List AN × List Int × List Int × List AK
def Ng (p : AW) (st : List Ax) (nd : List AN) (b : Bool) (vis : List (AK × Bool)) (g : List AN) (z h : List Int) (l : List AK) (x : AK) : FS :=
 if x.elem ∈ st.map (·.elem) \/ Br vis x = true then (b, vis, g, z, h, l)
 else if 0 <= Bg p x /\ p.hard = false then (b, BO x true vis, g, z, if Bg p x ∈ h then h else h ++ [Bg p x], l)
 else if BM p x.elem = 4 then (true, BO x true vis, g, z, h, l)
 else if BM p x.elem = 2 then
  if x.fin = 0 then ((DK b z x.elem).2.1, BO x true vis, g, (DK b z x.elem).2.2, h, if (DK b z x.elem).1 then EP p (EP p l ⟨x.elem, 2⟩) ⟨x.elem, 1⟩ else l)
  else if ⟨x.elem, x.fin⟩ ∈ nd \/ ⟨x.elem, x.fin⟩ ∈ g then ((DK b z x.elem).2.1, BO x true vis, g, (DK b z x.elem).2.2, h, if (DK b z x.elem).1 then EP p l ⟨x.elem, 0⟩ else l)
  else (b, BO x true vis, if ⟨x.elem, Ak (3 - x.fin)⟩ ∈ g then g else g ++ [⟨x.elem, Ak (3 - x.fin)⟩], z, h, l)
 else match EB p x.elem x.fin 0 with
  | none => (b, BO x true vis, g, z, h, l)
  | some o => ((DK b z x.elem).2.1, BO x true vis, g, (DK b z x.elem).2.2, h, if (DK b z x.elem).1 then EP p l ⟨x.elem, o⟩ else l)
theorem WR (b : Bool) (z : List Int) (e : Int) (hz : z.length <= 1000) : ((Bc z e).bind fun y => bif y then some (true, b, z) else bif decide (12 <= (z.length : Int)) then some (false, true, z) else (A5 z [e]).bind fun y' => some (true, b, y') : Option (Bool × Bool × List Int)) = some (DK b z e) := by
 rw [HS z (by omega)]
 unfold DK
 simp only [Option.bind_some]
 by_cases c : e ∈ z
 .rw [decide_eq_true c, if_pos c]; rfl
 rw [decide_eq_false c, if_neg c]
 by_cases d : 12 <= z.length
 .rw [if_pos d, decide_eq_true (show (12 : Int) <= (z.length : Int) by omega)]; rfl
 rw [if_neg d, decide_eq_false (show ¬ (12 : Int) <= (z.length : Int) by omega)]
 simp only [cond_false, BY (show z.length + [e].length <= 4294967296 by simp; omega), Option.bind_some]
theorem Lu (hn : FE p n) (l : List AK) (x : AK) (hl : l.length <= 1000000) : ((Cg n x).bind fun y => bif y.2 then (A5 l [y.1]).bind fun y' => some y' else some l : Option (List AK)) = some (EP p l x) := by
 rw [OQ hn]
 unfold EP
 cases BT p x with
 | none => rfl
 | some y => simp only [Option.bind_some, Option.isSome_some, Option.getD_some, cond_true, BY (show l.length + [y].length <= 4294967296 by simp; omega)]
theorem NF (l : List AK) (x : AK) : (EP p l x).length <= l.length + 1 := by unfold EP; split <;> simp
theorem UR (hn : FE p n) (h1 : r.steps.length <= 12) (h2 : r.needs.length <= 1000) (b : Bool) (vis : List (AK × Bool)) (g : List AN) (z h : List Int) (l : List AK) (x : AK) (hg : g.length <= 1000) (hz : z.length <= 1000) (hh : h.length <= 1000) (hl : l.length <= 1000) :
  Dq n r r.steps r.needs p (b, vis, g, z, h, l ++ [x]) = some (.inl (Ng p r.steps r.needs b vis g z h l x)) := by
 have d : decide ((0 : Int) < (((l ++ [x]).length : Nat) : Int)) = true := by simp
 have w := XV l x (by omega)
 have i1 := YV x (rfl : l.length = l.length)
 have s1 := YW x (rfl : l.length = l.length)
 have own := YY (⟨r.frm, r.to, r.fin, r.steps, r.needs, g, z, h, b⟩ : AV) (show r.steps.length < 1000000 by omega) x.elem
 have tz := WR b z x.elem hz
 have vb : (Aj vis x).getD false = Br vis x := rfl
 unfold Dq Ng
 simp only [d, cond_true, w, i1, s1, own, Option.bind_some, vb]
 by_cases c : x.elem ∈ r.steps.map (·.elem) \/ Br vis x = true
 .rw [if_pos c]
  rcases c with c | c
  .rw [decide_eq_true c]; rfl
  rw [c]; cases decide (x.elem ∈ r.steps.map (·.elem)) <;> rfl
 rw [if_neg c]
 have c1 : x.elem ∉ r.steps.map (·.elem) := fun h => c (.inl h)
 have c2 : Br vis x = false := by cases hs : Br vis x with | false => rfl | true => exact absurd (.inr hs) c
 rw [decide_eq_false c1, c2]
 simp only [cond_false, Option.bind_some, VI hn]
 by_cases k1 : 0 <= Bg p x /\ p.hard = false
 .rw [if_pos k1, decide_eq_true k1.1, k1.2]
  simp only [cond_true, Bool.not_false, Option.bind_some, HS h (show h.length < 1000000 by omega)]
  by_cases m : Bg p x ∈ h
  .rw [decide_eq_true m, if_pos m]; rfl
  rw [decide_eq_false m, if_neg m]
  simp only [Bool.not_false, cond_true, BY (show h.length + [Bg p x].length <= 4294967296 by simp; omega), Option.bind_some]
 rw [if_neg k1]
 have eb : (bif decide (0 <= Bg p x) then some (!p.hard) else some false : Option Bool) = some false := by
  by_cases a : 0 <= Bg p x
  .rw [decide_eq_true a]
   cases hp : p.hard with
   | true => rfl
   | false => exact absurd ⟨a, hp⟩ k1
  rw [decide_eq_false a]; rfl
 simp only [eb, Option.bind_some, cond_false, OP hn]
 by_cases k4 : BM p x.elem = 4
 .rw [if_pos k4, k4]; rfl
 rw [if_neg k4]
 have b4 : (BM p x.elem == 4) = false := beq_eq_false_iff_ne.2 k4
 simp only [b4, cond_false]
 by_cases k2 : BM p x.elem = 2
 .rw [if_pos k2, k2]
  simp only [beq_self_eq_true, cond_true]
  by_cases f0 : x.fin = 0
  .rw [if_pos f0]
   have bf : (x.fin == 0) = true := by simp [f0]
   simp only [bf, cond_true, tz, Option.bind_some]
   have q1 := NF (p := p) l ⟨x.elem, 2⟩
   cases ht : (DK b z x.elem).1 with
   | true => simp only [cond_true, Lu hn l ⟨x.elem, 2⟩ (by omega), Option.bind_some, Lu hn (EP p l ⟨x.elem, 2⟩) ⟨x.elem, 1⟩ (by omega), if_true]
   | false => simp only [cond_false, Option.bind_some, Bool.false_eq_true, if_false]
  rw [if_neg f0]
  have bf : (x.fin == 0) = false := beq_eq_false_iff_ne.2 f0
  simp only [bf, cond_false, ME r.needs (show r.needs.length < 1000000 by omega), ME g (show g.length < 1000000 by omega), Option.bind_some]
  have en : (bif decide ((⟨x.elem, x.fin⟩ : AN) ∈ r.needs) then some true else some (decide ((⟨x.elem, x.fin⟩ : AN) ∈ g)) : Option Bool) = some (decide ((⟨x.elem, x.fin⟩ : AN) ∈ r.needs \/ (⟨x.elem, x.fin⟩ : AN) ∈ g)) := by
   by_cases a : (⟨x.elem, x.fin⟩ : AN) ∈ r.needs
   .simp [a]
   simp [a]
  simp only [en, Option.bind_some]
  by_cases a : (⟨x.elem, x.fin⟩ : AN) ∈ r.needs \/ (⟨x.elem, x.fin⟩ : AN) ∈ g
  .rw [if_pos a, decide_eq_true a]
   simp only [cond_true, tz, Option.bind_some]
   cases ht : (DK b z x.elem).1 with
   | true => simp only [cond_true, Lu hn l ⟨x.elem, 0⟩ (by omega), Option.bind_some, if_true]
   | false => simp only [cond_false, Option.bind_some, Bool.false_eq_true, if_false]
  rw [if_neg a, decide_eq_false a]
  simp only [cond_false]
  by_cases m : (⟨x.elem, Ak (3 - x.fin)⟩ : AN) ∈ g
  .rw [decide_eq_true m, if_pos m]; rfl
  rw [decide_eq_false m, if_neg m]
  simp only [Bool.not_false, cond_true, BY (show g.length + [(⟨x.elem, Ak (3 - x.fin)⟩ : AN)].length <= 4294967296 by simp; omega), Option.bind_some]
 rw [if_neg k2]
 have b2 : (BM p x.elem == 2) = false := beq_eq_false_iff_ne.2 k2
 simp only [b2, cond_false, Ko, Sv hn, Option.bind_some]
 cases ht : EB p x.elem x.fin 0 with
 | none => rfl
 | some o =>
  simp only [Option.isSome_some, cond_true, Option.getD_some, tz, Option.bind_some]
  cases htz : (DK b z x.elem).1 with
  | true => simp only [cond_true, Lu hn l ⟨x.elem, o⟩ (by omega), Option.bind_some, if_true]
  | false => simp only [cond_false, Bool.false_eq_true, if_false]
end
end Go.E
/- Plain Lean: the flank of a road: what holds of zone, guards and holds; the search ends (laws FlankAgain, FlankApart). No condition. -/
namespace Go.E
open Go
section
variable {p : AW} {n : CT} {r : AV}
structure Tc (p : AW) (st : List Ax) (z : List Int) : Prop where
 len : z.length <= 12
 nd : z.Nodup
 own : ∀ e ∈ z, e ∉ st.map (·.elem) /\ BM p e ≠ 4
 rng : ∀ e ∈ z, BM p e ≠ 0
structure Wu (p : AW) (st : List Ax) (g : List AN) : Prop where
 ok : ∀ m ∈ g, m.elem ∉ st.map (·.elem) /\ BM p m.elem = 2 /\ (m.pos = 1 \/ m.pos = 2)
 nd : g.Pairwise (fun a b => a.elem ≠ b.elem)
theorem WS {st : List Ax} {b : Bool} {z : List Int} {e : Int} (h : Tc p st z) (h1 : e ∉ st.map (·.elem)) (h2 : BM p e ≠ 4) (h3 : BM p e ≠ 0) : Tc p st (DK b z e).2.2 := by
 unfold DK
 split
 .exact h
 rename_i hm
 split
 .exact h
 rename_i hl
 refine ⟨by simp; omega, ?_, fun a ha => ?_, fun a ha => ?_⟩
 .simp only
  rw [List.nodup_append]
  exact ⟨h.nd, by simp, fun a ha c hc => by simp at hc; subst hc; intro e; subst e; exact hm ha⟩
 .rcases List.mem_append.1 ha with ha | ha
  .exact h.own a ha
  simp at ha; subst ha; exact ⟨h1, h2⟩
 rcases List.mem_append.1 ha with ha | ha
 .exact h.rng a ha
 simp at ha; subst ha; exact h3
theorem Qi {x y : AK} (h : BT p x = some y) : y ∈ C2 p := ND h
theorem J1 {l : List AK} {x y : AK} (h : y ∈ EP p l x) : y ∈ l \/ y ∈ C2 p := by
 unfold EP at h
 cases hx : BT p x with
 | none => rw [hx] at h; exact .inl h
 | some z =>
  rw [hx] at h
  rcases List.mem_append.1 h with h | h
  .exact .inl h
  simp at h; subst h; exact .inr (Qi hx)
structure FI (p : AW) (st : List Ax) (M k : Nat) (vis : List (AK × Bool)) (g : List AN) (z h : List Int) (l : List AK) : Prop where
 zok : Tc p st z
 gok : Wu p st g
 hold : p.hard = true -> h = []
 port : ∀ x ∈ l, x ∈ C2 p
 lg : g.length <= k
 lh : h.length <= k
 meas : k + l.length + 3 * PW p vis <= M
theorem XX (hv : HQ p) {st : List Ax} {nd : List AN} {M k : Nat} {b : Bool} {vis : List (AK × Bool)} {g : List AN} {z h : List Int} {l : List AK} {x : AK} (hi : FI p st M k vis g z h (l ++ [x])) {s : FS} (hs : s = Ng p st nd b vis g z h l x) :
  FI p st M (k + 1) s.2.1 s.2.2.1 s.2.2.2.1 s.2.2.2.2.1 s.2.2.2.2.2 := by
 have hm := hi.meas
 simp only [List.length_append, List.length_cons, List.length_nil] at hm
 have hx : x ∈ C2 p := hi.port x (by simp)
 have hl : ∀ y ∈ l, y ∈ C2 p := fun y hy => hi.port y (by simp [hy])
 have hlg := hi.lg
 have hlh := hi.lh
 have hul := YZ (p := p) (vis := vis) x
 have hhas : HM p x = true := by
  obtain ⟨i, hi⟩ := List.mem_iff_getElem?.1 hx
  exact hv.join.has i x hi
 unfold Ng at hs
 by_cases c : x.elem ∈ st.map (·.elem) \/ Br vis x = true
 .rw [if_pos c] at hs
  subst hs
  exact ⟨hi.zok, hi.gok, hi.hold, hl, by dsimp only; omega, by dsimp only; omega, by dsimp only; omega⟩
 rw [if_neg c] at hs
 have c1 : x.elem ∉ st.map (·.elem) := fun h => c (.inl h)
 have c2 : Br vis x = false := by cases hs : Br vis x with | false => rfl | true => exact absurd (.inr hs) c
 have hlt := Ya hx c2
 by_cases k1 : 0 <= Bg p x /\ p.hard = false
 .rw [if_pos k1] at hs
  subst hs
  refine ⟨hi.zok, hi.gok, fun hh => (by rw [k1.2] at hh; cases hh), hl, by dsimp only; omega, ?_, by dsimp only; omega⟩
  dsimp only
  split
  .omega
  simp; omega
 rw [if_neg k1] at hs
 by_cases k4 : BM p x.elem = 4
 .rw [if_pos k4] at hs
  subst hs
  exact ⟨hi.zok, hi.gok, hi.hold, hl, by dsimp only; omega, by dsimp only; omega, by dsimp only; omega⟩
 rw [if_neg k4] at hs
 have k0 : BM p x.elem ≠ 0 := fun e => by
  obtain ⟨f1, f2, f3⟩ := Lo hhas
  rw [e] at f3
  simp [Fi] at f3
  omega
 have hz := WS (b := b) hi.zok c1 k4 k0
 have p1 : ∀ y, (EP p l y).length <= l.length + 1 := fun y => NF l y
 by_cases k2 : BM p x.elem = 2
 .rw [if_pos k2] at hs
  by_cases f0 : x.fin = 0
  .rw [if_pos f0] at hs
   subst hs
   refine ⟨hz, hi.gok, hi.hold, fun y hy => ?_, by dsimp only; omega, by dsimp only; omega, ?_⟩
   .dsimp only at hy
    split at hy
    .rcases J1 hy with hy | hy
     .rcases J1 hy with hy | hy
      .exact hl y hy
      exact hy
     exact hy
    exact hl y hy
   dsimp only
   have q1 := p1 ⟨x.elem, 2⟩
   have q2 := NF (p := p) (EP p l ⟨x.elem, 2⟩) ⟨x.elem, 1⟩
   split <;> omega
  rw [if_neg f0] at hs
  by_cases a : (⟨x.elem, x.fin⟩ : AN) ∈ nd \/ (⟨x.elem, x.fin⟩ : AN) ∈ g
  .rw [if_pos a] at hs
   subst hs
   refine ⟨hz, hi.gok, hi.hold, fun y hy => ?_, by dsimp only; omega, by dsimp only; omega, ?_⟩
   .dsimp only at hy
    split at hy
    .rcases J1 hy with hy | hy
     .exact hl y hy
     exact hy
    exact hl y hy
   dsimp only
   have q1 := p1 ⟨x.elem, 0⟩
   split <;> omega
  rw [if_neg a] at hs
  subst hs
  obtain ⟨f1, f2, f3⟩ := Lo hhas
  rw [k2] at f3
  simp [Fi] at f3
  have hw : Ak (3 - x.fin) = 3 - x.fin := by rw [DW] <;> omega
  refine ⟨hi.zok, ?_, hi.hold, hl, ?_, by dsimp only; omega, by dsimp only; omega⟩
  .dsimp only
   split
   .exact hi.gok
   rename_i hng
   refine ⟨fun m hm => ?_, ?_⟩
   .rcases List.mem_append.1 hm with hm | hm
    .exact hi.gok.ok m hm
    simp at hm; subst hm; exact ⟨c1, k2, by rw [hw]; simp only; omega⟩
   rw [List.pairwise_append]
   refine ⟨hi.gok.nd, by simp, fun m hm q hq => ?_⟩
   simp at hq
   subst hq
   intro he
   simp only at he
   obtain ⟨_, _, hp⟩ := hi.gok.ok m hm
   have e1 : m = ⟨x.elem, m.pos⟩ := by cases m; simp only at he; subst he; rfl
   by_cases e : m.pos = x.fin
   .rw [e] at e1; rw [e1] at hm; exact a (.inr hm)
   have : m.pos = 3 - x.fin := by omega
   rw [this, <- hw] at e1; rw [e1] at hm; exact hng hm
  dsimp only
  split
  .omega
  simp; omega
 rw [if_neg k2] at hs
 cases ht : EB p x.elem x.fin 0 with
 | none =>
  rw [ht] at hs
  subst hs
  exact ⟨hi.zok, hi.gok, hi.hold, hl, by dsimp only; omega, by dsimp only; omega, by dsimp only; omega⟩
 | some o =>
  rw [ht] at hs
  subst hs
  refine ⟨hz, hi.gok, hi.hold, fun y hy => ?_, by dsimp only; omega, by dsimp only; omega, ?_⟩
  .dsimp only at hy
   split at hy
   .rcases J1 hy with hy | hy
    .exact hl y hy
    exact hy
   exact hl y hy
  dsimp only
  have q1 := p1 ⟨x.elem, o⟩
  split <;> omega
end
end Go.E
/- Plain Lean: zone, guards and holds of a road's flank (law FlankApart). No condition. -/
namespace Go.E
open Go
section
variable {p : AW} {n : CT} {r : AV}
end
end Go.E
/- Plain Lean: one call of the document's search for the flank, in a clean form. No condition. -/
namespace Go.E
open Go
section
variable {p : AW} {n : CT} {r : AV}
end
end Go.E
/- Plain Lean: the document's search for the flank and the program's loop: one call is as good as one port on the stack. No condition. -/
namespace Go.E
open Go
section
variable {p : AW} {n : CT} {r : AV}
end
end Go.E
/- Plain Lean: the flank of a road: the document's answer and the program's are one (law FlankOfs). No condition. -/
namespace Go.E
open Go
section
variable {p : AW} {n : CT} {r : AV}
end
end Go.E
/- Plain Lean: whether a road is ready, by the program and by the document (law FlankReady). No condition. -/
namespace Go.E
open Go
end Go.E
/- Plain Lean: a road that is ready is so no more when one thing is otherwise (law FlankOne). No condition. -/
namespace Go.E
open Go
section
variable {p : AW} {n : CT} {r : AV}
end
end Go.E
/- Plain Lean: what a road's flank keeps: nobody comes in but from its zone (law FlankKeeps). No condition. -/
namespace Go.E
open Go
section
variable {p : AW} {n : CT} {r : AV}
def VP (st : List Ax) (vis : List (AK × Bool)) (l : List AK) (y : AK) : Prop := y ∈ l \/ Br vis y = true \/ y.elem ∈ st.map (·.elem)
structure SP (p : AW) (nd g : List AN) (z h : List Int) (at_ : AK -> Prop) (x : AK) : Prop where
 held : 0 <= Bg p x /\ p.hard = false -> Bg p x ∈ h
 gate : ¬ (0 <= Bg p x /\ p.hard = false) -> BM p x.elem ≠ 4
 toe : ¬ (0 <= Bg p x /\ p.hard = false) -> BM p x.elem = 2 -> x.fin = 0 -> x.elem ∈ z /\ ∀ o, (o = 1 \/ o = 2) -> ∀ y, BT p ⟨x.elem, o⟩ = some y -> at_ y
 leg : ¬ (0 <= Bg p x /\ p.hard = false) -> BM p x.elem = 2 -> x.fin ≠ 0 -> (x.elem ∈ z /\ ∀ y, BT p ⟨x.elem, 0⟩ = some y -> at_ y) \/ (⟨x.elem, Ak (3 - x.fin)⟩ : AN) ∈ g
 other : ¬ (0 <= Bg p x /\ p.hard = false) -> BM p x.elem ≠ 2 -> ∀ o, EB p x.elem x.fin 0 = some o -> x.elem ∈ z /\ ∀ y, BT p ⟨x.elem, o⟩ = some y -> at_ y
theorem SP.mono {nd g g' : List AN} {z z' h h' : List Int} {a a' : AK -> Prop} {x : AK} (hk : SP p nd g z h a x) (hg : ∀ m ∈ g, m ∈ g') (hz : ∀ m ∈ z, m ∈ z') (hh : ∀ m ∈ h, m ∈ h') (ha : ∀ y, a y -> a' y) : SP p nd g' z' h' a' x :=
 ⟨fun c => hh _ (hk.held c), hk.gate, fun c k f => ⟨hz _ (hk.toe c k f).1, fun o ho y hy => ha _ ((hk.toe c k f).2 o ho y hy)⟩,
  fun c k f => (hk.leg c k f).imp (fun q => ⟨hz _ q.1, fun y hy => ha _ (q.2 y hy)⟩) (hg _), fun c k o ho => ⟨hz _ (hk.other c k o ho).1, fun y hy => ha _ ((hk.other c k o ho).2 y hy)⟩⟩
structure KI (p : AW) (st : List Ax) (nd : List AN) (b : Bool) (vis : List (AK × Bool)) (g : List AN) (z h : List Int) (l : List AK) : Prop where
 seen : b = false -> ∀ x, Br vis x = true -> SP p nd g z h (VP st vis l) x
 init : ∀ x y, x ∈ Ep p st -> BT p x = some y -> VP st vis l y
theorem KI.next {st : List Ax} {nd : List AN} {b b' : Bool} {vis vis' : List (AK × Bool)} {g g' : List AN} {z z' h h' : List Int} {l l' : List AK} {x : AK} (hi : KI p st nd b vis g z h (l ++ [x]))
  (hb : b' = false -> b = false) (hv : ∀ y, Br vis y = true -> Br vis' y = true) (hv2 : ∀ y, Br vis' y = true -> Br vis y = true \/ y = x) (hl : ∀ y ∈ l, y ∈ l') (hx : Br vis' x = true \/ x.elem ∈ st.map (·.elem))
  (hg : ∀ m ∈ g, m ∈ g') (hz : ∀ m ∈ z, m ∈ z') (hh : ∀ m ∈ h, m ∈ h') (hr : b' = false -> Br vis x = false -> Br vis' x = true -> SP p nd g' z' h' (VP st vis' l') x) : KI p st nd b' vis' g' z' h' l' := by
 have ha : ∀ y, VP st vis (l ++ [x]) y -> VP st vis' l' y := by
  rintro y (hy | hy | hy)
  .rcases List.mem_append.1 hy with hy | hy
   .exact .inl (hl y hy)
   simp at hy; subst hy; exact .inr hx
  .exact .inr (.inl (hv y hy))
  exact .inr (.inr hy)
 refine ⟨fun hb' y hy => ?_, fun y q hy hq => ha q (hi.init y q hy hq)⟩
 cases hs : Br vis y with
 | true => exact (hi.seen (hb hb') y hs).mono hg hz hh ha
 | false =>
  rcases hv2 y hy with hy2 | rfl
  .rw [hs] at hy2; cases hy2
  exact hr hb' hs hy
theorem NG {b : Bool} {z : List Int} {e m : Int} (hm : m ∈ z) : m ∈ (DK b z e).2.2 := by
 unfold DK
 split
 .exact hm
 split
 .exact hm
 exact List.mem_append_left _ hm
theorem FG {b : Bool} {z : List Int} {e : Int} (h : (DK b z e).2.1 = false) : b = false /\ (DK b z e).1 = true /\ e ∈ (DK b z e).2.2 := by
 unfold DK at *
 split
 .rename_i c; rw [if_pos c] at h; exact ⟨h, rfl, c⟩
 rename_i c
 rw [if_neg c] at h
 split
 .rename_i d; rw [if_pos d] at h; cases h
 rename_i d; rw [if_neg d] at h; exact ⟨h, rfl, by simp⟩
theorem IK {l : List AK} {x y : AK} (h : y ∈ l) : y ∈ EP p l x := by
 unfold EP
 split
 .exact List.mem_append_left _ h
 exact h
theorem J2 {l : List AK} {x y : AK} (h : BT p x = some y) : y ∈ EP p l x := by
 unfold EP
 rw [h]
 simp
theorem XY {st : List Ax} {nd : List AN} {b : Bool} {vis : List (AK × Bool)} {g : List AN} {z h : List Int} {l : List AK} {x : AK} (hi : KI p st nd b vis g z h (l ++ [x])) {s : FS} (hs : s = Ng p st nd b vis g z h l x) :
  KI p st nd s.1 s.2.1 s.2.2.1 s.2.2.2.1 s.2.2.2.2.1 s.2.2.2.2.2 := by
 have sx : Br (BO x true vis) x = true := (GH vis x x).2 (.inl rfl)
 have s1 : ∀ y, Br vis y = true -> Br (BO x true vis) y = true := fun y hy => (GH vis x y).2 (.inr hy)
 have s2 : ∀ y, Br (BO x true vis) y = true -> Br vis y = true \/ y = x := fun y hy => ((GH vis x y).1 hy).symm
 unfold Ng at hs
 by_cases c : x.elem ∈ st.map (·.elem) \/ Br vis x = true
 .rw [if_pos c] at hs
  subst hs
  exact hi.next (fun h => h) (fun _ h => h) (fun _ h => .inl h) (fun _ h => h) c.symm (fun _ h => h) (fun _ h => h) (fun _ h => h) fun _ hn hy => (by rw [hn] at hy; cases hy)
 rw [if_neg c] at hs
 by_cases k1 : 0 <= Bg p x /\ p.hard = false
 .rw [if_pos k1] at hs
  subst hs
  refine hi.next (fun h => h) s1 s2 (fun _ h => h) (.inl sx) (fun _ h => h) (fun _ h => h) (fun m hm => ?_) fun _ _ _ => ⟨fun _ => ?_, fun q => absurd k1 q, fun q => absurd k1 q, fun q => absurd k1 q, fun q => absurd k1 q⟩
  .dsimp only; split
   .exact hm
   exact List.mem_append_left _ hm
  dsimp only; split
  .assumption
  simp
 rw [if_neg k1] at hs
 by_cases k4 : BM p x.elem = 4
 .rw [if_pos k4] at hs
  subst hs
  exact hi.next (fun h => (by cases h)) s1 s2 (fun _ h => h) (.inl sx) (fun _ h => h) (fun _ h => h) (fun _ h => h) fun h => (by cases h)
 rw [if_neg k4] at hs
 by_cases k2 : BM p x.elem = 2
 .rw [if_pos k2] at hs
  by_cases f0 : x.fin = 0
  .rw [if_pos f0] at hs
   subst hs
   refine hi.next (fun hb => (FG hb).1) s1 s2 (fun y hy => ?_) (.inl sx) (fun _ h => h) (fun _ h => NG h) (fun _ h => h) fun hb _ _ => ⟨fun q => absurd q k1, fun _ => k4, fun _ _ _ => ⟨(FG hb).2.2, fun o ho y hy => .inl ?_⟩, fun _ _ f => absurd f0 f, fun _ q => absurd k2 q⟩
   .dsimp only; split
    .exact IK (IK hy)
    exact hy
   dsimp only
   rw [if_pos (FG hb).2.1]
   rcases ho with rfl | rfl
   .exact J2 hy
   exact IK (J2 hy)
  rw [if_neg f0] at hs
  by_cases a : (⟨x.elem, x.fin⟩ : AN) ∈ nd \/ (⟨x.elem, x.fin⟩ : AN) ∈ g
  .rw [if_pos a] at hs
   subst hs
   refine hi.next (fun hb => (FG hb).1) s1 s2 (fun y hy => ?_) (.inl sx) (fun _ h => h) (fun _ h => NG h) (fun _ h => h) fun hb _ _ => ⟨fun q => absurd q k1, fun _ => k4, fun _ _ f => absurd f f0, fun _ _ _ => .inl ⟨(FG hb).2.2, fun y hy => .inl ?_⟩, fun _ q => absurd k2 q⟩
   .dsimp only; split
    .exact IK hy
    exact hy
   dsimp only
   rw [if_pos (FG hb).2.1]
   exact J2 hy
  rw [if_neg a] at hs
  subst hs
  refine hi.next (fun h => h) s1 s2 (fun _ h => h) (.inl sx) (fun m hm => ?_) (fun _ h => h) (fun _ h => h) fun hb _ _ => ⟨fun q => absurd q k1, fun _ => k4, fun _ _ f => absurd f f0, fun _ _ _ => .inr ?_, fun _ q => absurd k2 q⟩
  .dsimp only; split
   .exact hm
   exact List.mem_append_left _ hm
  dsimp only; split
  .assumption
  simp
 rw [if_neg k2] at hs
 cases ht : EB p x.elem x.fin 0 with
 | none =>
  rw [ht] at hs
  subst hs
  exact hi.next (fun h => h) s1 s2 (fun _ h => h) (.inl sx) (fun _ h => h) (fun _ h => h) (fun _ h => h) fun hb _ _ => ⟨fun q => absurd q k1, fun _ => k4, fun _ q => absurd q k2, fun _ q => absurd q k2, fun _ _ o ho => (by rw [ht] at ho; cases ho)⟩
 | some o =>
  rw [ht] at hs
  subst hs
  refine hi.next (fun hb => (FG hb).1) s1 s2 (fun y hy => ?_) (.inl sx) (fun _ h => h) (fun _ h => NG h) (fun _ h => h) fun hb _ _ => ⟨fun q => absurd q k1, fun _ => k4, fun _ q => absurd q k2, fun _ q => absurd q k2, fun _ _ o' ho => ?_⟩
  .dsimp only; split
   .exact IK hy
   exact hy
  rw [ht] at ho
  cases ho
  refine ⟨(FG hb).2.2, fun y hy => .inl ?_⟩
  dsimp only
  rw [if_pos (FG hb).2.1]
  exact J2 hy
theorem Sy (hv : HQ p) (hn : FE p n) (h1 : r.steps.length <= 12) (h2 : r.needs.length <= 1000) : ∃ g z h b, HF n r = some ⟨r.frm, r.to, r.fin, r.steps, r.needs, g, z, h, b⟩ /\ Tc p r.steps z /\ Wu p r.steps g /\ (p.hard = true -> h = []) /\ g.length <= 700 /\ h.length <= 700 /\
  ∃ vis, KI p r.steps r.needs b vis g z h [] := by
 have hj := hv.nj
 have hp := PU (p := p) r.steps
 rw [Sx hv hn h1 h2]
 obtain ⟨R, e1, g, z, h, b, rfl, e2⟩ := Kv (step := Dq n r r.steps r.needs p) (Post := fun R => ∃ g z h b, R = (⟨r.frm, r.to, r.fin, r.steps, r.needs, g, z, h, b⟩ : AV) /\ Tc p r.steps z /\ Wu p r.steps g /\ (p.hard = true -> h = []) /\ g.length <= 700 /\ h.length <= 700 /\ ∃ vis, KI p r.steps r.needs b vis g z h [])
  (fun k s => FI p r.steps 700 k s.2.1 s.2.2.1 s.2.2.2.1 s.2.2.2.2.1 s.2.2.2.2.2 /\ KI p r.steps r.needs s.1 s.2.1 s.2.2.1 s.2.2.2.1 s.2.2.2.2.1 s.2.2.2.2.2) 700 (s := (false, [], [], [], [], (HR p (Ep p r.steps)).reverse)) (by
   rintro k ⟨b, vis, g, z, h, l⟩ ⟨hi, hk⟩
   have hm := hi.meas
   have hlg := hi.lg
   have hlh := hi.lh
   have hzl := hi.zok.len
   dsimp only at hm hlg hlh hzl hi hk
   rcases List.eq_nil_or_concat l with rfl | ⟨l', x, rfl⟩
   .left
    exact ⟨_, rfl, g, z, h, b, rfl, hi.zok, hi.gok, hi.hold, by omega, by omega, vis, hk⟩
   .right
    rw [List.concat_eq_append] at hi hm hk ⊢
    simp only [List.length_append, List.length_cons, List.length_nil] at hm
    refine ⟨by omega, _, UR hn h1 h2 b vis g z h l' x (by omega) (by omega) (by omega) (by omega), XX hv hi rfl, XY hk rfl⟩) (by
   refine ⟨⟨⟨by simp, by simp, by simp, by simp⟩, ⟨by simp, by simp⟩, fun _ => rfl, fun y hy => ?_, by simp, by simp, ?_⟩, fun _ x hx => ?_, fun x y hx hy => .inl ?_⟩
   .have := List.mem_reverse.1 hy
    obtain ⟨x, hx, rfl⟩ := List.mem_map.1 this
    obtain ⟨y, hy⟩ := SO hx
    rw [hy]
    exact Qi hy
   .have h3 : PW p [] <= (C2 p).length := List.length_filter_le _ _
    have h4 : (C2 p).length = 2 * p.joins.length := NB _
    simp only [HR, List.length_reverse, List.length_map]
    omega
   .simp [Br, Aj] at hx
   rw [List.mem_reverse]
   exact List.mem_map.2 ⟨x, hx, by rw [hy]; rfl⟩)
 exact ⟨g, z, h, b, e1, e2⟩
end
end Go.E
/- Plain Lean: whether a road's flank keeps all others out, told without an order (US, GuardP), and the program's answer. No condition. -/
namespace Go.E
open Go
def Y0 (lay : Int -> Option Int) (e : Int) (w : De) : List Int := if w.pos = 0 \/ lay e = none \/ lay e = some w.pos then [w.out] else []
def NH (p : AW) (lay : Int -> Option Int) (x : AK) : List Int := (Gk p x.elem x.fin).flatMap (Y0 lay x.elem)
def J3 (p : AW) (holds : List Int) (x : AK) : Prop := p.hard = false /\ 0 <= Bg p x /\ Bg p x ∈ holds
instance (p : AW) (holds : List Int) (x : AK) : Decidable (J3 p holds x) := by unfold J3; infer_instance
def Lv (p : AW) (lay : Int -> Option Int) (zone : List Int) (x : AK) : Prop := BM p x.elem ≠ 4 /\ (NH p lay x ≠ [] -> x.elem ∈ zone)
instance (p : AW) (lay : Int -> Option Int) (zone : List Int) (x : AK) : Decidable (Lv p lay zone x) := by unfold Lv; infer_instance
inductive OT (p : AW) (lay : Int -> Option Int) (holds : List Int) (st : List Ax) : AK -> Prop
 | init {x y : AK} : x ∈ Ep p st -> BT p x = some y -> OT p lay holds st y
 | step {x y : AK} {o : Int} : OT p lay holds st x -> x.elem ∉ st.map (·.elem) -> ¬ J3 p holds x -> o ∈ NH p lay x -> BT p ⟨x.elem, o⟩ = some y -> OT p lay holds st y
def US (p : AW) (lay : Int -> Option Int) (holds zone : List Int) (st : List Ax) : Prop := ∀ x, OT p lay holds st x -> x.elem ∉ st.map (·.elem) -> ¬ J3 p holds x -> Lv p lay zone x
def Lm (nl : List AN) : Prop := ∀ a ∈ nl, ∀ b ∈ nl, a.elem = b.elem -> a.pos = b.pos
section
variable {p : AW} {n : CT} {r : AV} {lay : Int -> Option Int} {holds zone : List Int} {st : List Ax}
structure GI (p : AW) (lay : Int -> Option Int) (holds zone : List Int) (st : List Ax) (V : AK -> Prop) (q : List AK) : Prop where
 arr : ∀ x ∈ q, OT p lay holds st x
 full : ∀ x, V x -> x.elem ∉ st.map (·.elem) -> ¬ J3 p holds x -> Lv p lay zone x /\ ∀ o ∈ NH p lay x, ∀ y, BT p ⟨x.elem, o⟩ = some y -> y ∈ q \/ V y
 init : ∀ x y, x ∈ Ep p st -> BT p x = some y -> y ∈ q \/ V y
theorem GI.done {V : AK -> Prop} (h : GI p lay holds zone st V []) : US p lay holds zone st := by
 have key : ∀ x, OT p lay holds st x -> V x := by
  intro x hx
  induction hx with
  | init h1 h2 => exact (h.init _ _ h1 h2).resolve_left (by simp)
  | step _ h2 h3 h4 h5 ih => exact ((h.full _ ih h2 h3).2 _ h4 _ h5).resolve_left (by simp)
 exact fun x hx h1 h2 => (h.full x (key x hx) h1 h2).1
theorem GI.bad {V : AK -> Prop} {x : AK} {q : List AK} (h : GI p lay holds zone st V (x :: q)) (h1 : x.elem ∉ st.map (·.elem)) (h2 : ¬ J3 p holds x) (hb : ¬ Lv p lay zone x) : ¬ US p lay holds zone st :=
 fun hk => hb (hk x (h.arr x (by simp)) h1 h2)
theorem GI.next {V V' : AK -> Prop} {x : AK} {q q' : List AK} (h : GI p lay holds zone st V (x :: q)) (hV : ∀ y, V y -> V' y) (hx : V' x) (hV2 : ∀ y, V' y -> V y \/ y = x) (hq : ∀ y ∈ q, y ∈ q') (hq2 : ∀ y ∈ q', OT p lay holds st y)
  (hf : ¬ V x -> x.elem ∉ st.map (·.elem) -> ¬ J3 p holds x -> Lv p lay zone x /\ ∀ o ∈ NH p lay x, ∀ y, BT p ⟨x.elem, o⟩ = some y -> y ∈ q' \/ V' y) : GI p lay holds zone st V' q' := by
 have keep : ∀ y, y ∈ x :: q \/ V y -> y ∈ q' \/ V' y := by
  rintro y (hy | hy)
  .rcases List.mem_cons.1 hy with rfl | hy
   .exact .inr hx
   exact .inl (hq y hy)
  exact .inr (hV y hy)
 refine ⟨hq2, fun y hy h1 h2 => ?_, fun a b ha hb => keep b (h.init a b ha hb)⟩
 by_cases c : V y
 .have := h.full y c h1 h2
  exact ⟨this.1, fun o ho z hz => keep z (this.2 o ho z hz)⟩
 rcases hV2 y hy with hy2 | rfl
 .exact absurd hy2 c
 exact hf c h1 h2
def SQ (p : AW) (e : Int) (l : List Int) : List AK := l.flatMap fun o => match BT p ⟨e, o⟩ with
 | some y => [y]
 | none => []
theorem PY {e o : Int} {l : List Int} {y : AK} : y ∈ SQ p e l ↔ ∃ o ∈ l, BT p ⟨e, o⟩ = some y := by
 unfold SQ
 rw [List.mem_flatMap]
 constructor
 .rintro ⟨o, ho, hy⟩
  cases hx : BT p ⟨e, o⟩ with
  | none => rw [hx] at hy; cases hy
  | some z => rw [hx] at hy; simp at hy; subst hy; exact ⟨o, ho, hx⟩
 rintro ⟨o, ho, hy⟩
 exact ⟨o, ho, by rw [hy]; simp⟩
theorem GI.go {V V' : AK -> Prop} {x : AK} {q : List AK} (h : GI p lay holds zone st V (x :: q)) (h1 : x.elem ∉ st.map (·.elem)) (h2 : ¬ J3 p holds x) (hg : Lv p lay zone x) (hV : ∀ y, V' y ↔ V y \/ y = x) : GI p lay holds zone st V' (q ++ SQ p x.elem (NH p lay x)) := by
 have hx := h.arr x (by simp)
 refine h.next (fun y hy => (hV y).2 (.inl hy)) ((hV x).2 (.inr rfl)) (fun y hy => (hV y).1 hy) (fun y hy => List.mem_append_left _ hy) (fun y hy => ?_) (fun _ _ _ => ⟨hg, fun o ho y hy => .inl (List.mem_append_right _ (PY (o := o) |>.2 ⟨o, ho, hy⟩))⟩)
 rcases List.mem_append.1 hy with hy | hy
 .exact h.arr y (by simp [hy])
 obtain ⟨o, ho, hy⟩ := (PY (o := 0)).1 hy
 exact .step hx h1 h2 ho hy
end
end Go.E
/- Plain Lean: a road that is guarded keeps all out, whatever way other points lie; what a flank keeps is guarded. No condition. -/
namespace Go.E
open Go
section
variable {p : AW} {n : CT} {r : AV} {lay : Int -> Option Int} {holds zone : List Int} {st : List Ax} {lie : List Int} {shut : List Bool}
end
end Go.E
/- Plain Lean: whether a road is guarded: the program's answer and the document's are one. No condition. -/
namespace Go.E
open Go
def ZD (p : AW) (m : AN) : Prop := BM p m.elem = 2 /\ (m.pos = 1 \/ m.pos = 2)
instance (p : AW) (m : AN) : Decidable (ZD p m) := by unfold ZD; infer_instance
section
variable {p : AW} {n : CT} {r : AV}
end
end Go.E
/- Plain Lean: whether a road is guarded, by the program and by the document (law ProofGuards); what is guarded keeps (law ProofKeeps). No condition. -/
namespace Go.E
open Go
section
variable {p : AW} {n : CT} {r : AV}
end
end Go.E
/- Plain Lean: what is wrong first with a chart of a valid plan: the program's answer and the document's are one (checkF). No condition. -/
namespace Go.E
open Go
section
variable {p : AW} {n : CT}
theorem VQ (hv : HQ p) {a b : AV} (ha : Tb p a = true) (hb : Tb p b = true) (h : a.steps = b.steps) : a.frm = b.frm := by
 obtain ⟨s1, n1, l1, a1, a2, a3, a4, a5, a6, a7⟩ := Jz ha
 obtain ⟨s2, n2, l2, b1, b2, b3, b4, b5, b6, b7⟩ := Jz hb
 have key : ∀ (sg : BK) (st : List Ax) (nd : List AN), 1 <= st.length -> DN p sg.at_.elem (BT p sg.at_) [] [] st = some nd -> ∃ q, st.head? = some q /\ BT p sg.at_ = some ⟨q.elem, q.in_⟩ := fun sg st nd hl hs => by
  cases st with
  | nil => simp at hl
  | cons q r =>
   cases hx : BT p sg.at_ with
   | none => rw [hx] at hs; simp [DN] at hs
   | some x =>
    rw [hx] at hs
    unfold DN at hs
    split at hs
    .cases hs
    rename_i c
    have e1 : q.elem = x.elem := Decidable.byContradiction fun h => c (.inl h)
    have e2 : q.in_ = x.fin := Decidable.byContradiction fun h => c (.inr (.inl h))
    exact ⟨q, rfl, by rw [e1, e2]⟩
 obtain ⟨q1, c1, c2⟩ := key s1 a.steps n1 a2 a4
 obtain ⟨q2, d1, d2⟩ := key s2 b.steps n2 b2 b4
 rw [h] at c1
 rw [c1] at d1
 cases d1
 have e1 := Qh hv.join c2
 have e2 := Qh hv.join d2
 rw [e1] at e2
 have e3 : s1.at_ = s2.at_ := by injection e2
 obtain ⟨f1, f2⟩ := VR a1
 obtain ⟨g1, g2⟩ := VR b1
 have r1 := hv.sig.reads _ _ f1
 have r2 := hv.sig.reads _ _ g1
 rw [e3, r2] at r1
 rw [f2, g2]; omega
end
end Go.E
/- Plain Lean: the chart of a valid plan with one thing of one road turned (law ProofTurned). No condition. -/
namespace Go.E
open Go
section
variable {p : AW} {n : CT}
noncomputable def Nh (n : CT) (r : AV) : AV := (HF n r).getD r
structure XZ (p : AW) (r q : AV) : Prop where
 frm : q.frm = r.frm
 to : q.to = r.to
 fin : q.fin = r.fin
 steps : q.steps = r.steps
 needs : q.needs = r.needs
 zone : Tc p r.steps q.zone
 guards : Wu p r.steps q.guards
 hard : p.hard = true -> q.holds = []
 lg : q.guards.length <= 700
 lh : q.holds.length <= 700
 keep : ∃ vis, KI p r.steps r.needs q.bare vis q.guards q.zone q.holds []
theorem P4 (hv : HQ p) (hn : FE p n) {r : AV} (h1 : r.steps.length <= 12) (h2 : r.needs.length <= 1000) : HF n r = some (Nh n r) /\ XZ p r (Nh n r) := by
 obtain ⟨g, z, h, b, e1, e2, e3, e4, e5, e6, e7⟩ := Sy hv hn h1 h2
 have hR2 : Nh n r = ⟨r.frm, r.to, r.fin, r.steps, r.needs, g, z, h, b⟩ := by unfold Nh; rw [e1]; rfl
 refine ⟨by rw [hR2, e1], ?_⟩
 rw [hR2]
 exact ⟨rfl, rfl, rfl, rfl, rfl, e2, e3, e4, e5, e6, e7⟩
end
end Go.E
/- Plain Lean: what is built is fine (law ProofBuilt); what a chart without one of its roads lacks, and with one of them twice (law ProofLacks). No condition. -/
namespace Go.E
open Go
section
variable {p : AW} {n : CT}
theorem Qj (hv : HQ p) {s s' : Int} {a b : AV} (ha : a ∈ MC p s) (hb : b ∈ MC p s') (h : a.steps = b.steps) : a = b /\ s = s' := by
 have fa := Hq ha
 have fb := Hq hb
 have e := VQ hv fa.1 fb.1 h
 obtain ⟨s1, n1, l1, a1, a2, a3, a4, a5, a6, a7⟩ := Jz fa.1
 obtain ⟨s2, n2, l2, b1, b2, b3, b4, b5, b6, b7⟩ := Jz fb.1
 rw [e, b1] at a1
 have e1 : s2 = s1 := Option.some.inj a1
 subst e1
 rw [h, b4] at a4
 have e2 : n2 = n1 := Option.some.inj a4
 rw [h, b5] at a5
 have e3 : l2 = l1 := Option.some.inj a5
 subst e3
 have e4 : a.fin = b.fin /\ a.to = b.to := by
  unfold Lq at a6 b6
  split at a6
  .rename_i k
   rw [if_pos k] at b6
   simp only [decide_eq_true_eq] at a6 b6
   exact ⟨by rw [a6.1, b6.1], by rw [a6.2, b6.2]⟩
  rename_i k
  rw [if_neg k] at b6
  split at a6
  .rename_i k2
   rw [if_pos k2] at b6
   simp only [decide_eq_true_eq] at a6 b6
   exact ⟨by rw [a6.1, b6.1], by rw [a6.2, b6.2]⟩
  rename_i k2
  rw [if_neg k2] at b6
  simp only [Bool.and_eq_true, decide_eq_true_eq] at a6 b6
  exact ⟨by rw [a6.2.1, b6.2.1], by rw [a6.2.2, b6.2.2]⟩
 refine ⟨WI.2 ⟨e, e4.2, e4.1, h, by rw [a7, b7, e2], by rw [fa.2.2.1, fb.2.2.1], by rw [fa.2.2.2.1, fb.2.2.2.1], by rw [fa.2.2.2.2.1, fb.2.2.2.2.1], by rw [fa.2.2.2.2.2.1, fb.2.2.2.2.2.1]⟩, ?_⟩
 rw [<- fa.2.1, <- fb.2.1, e]
theorem J4 (hv : HQ p) : ∀ i : Nat, (Lr p i).Nodup /\ ∀ r ∈ Lr p i, ∃ s : Nat, s < i /\ r ∈ MC p (s : Int)
 | 0 => ⟨by simp [Lr], by simp [Lr]⟩
 | i + 1 => by
  obtain ⟨h1, h2⟩ := J4 hv i
  rw [VL]
  refine ⟨List.nodup_append.2 ⟨h1, VK _, fun a ha b hb e => ?_⟩, fun r hr => ?_⟩
  .obtain ⟨s, hs, hm⟩ := h2 a ha
   have := (Qj hv hm hb (by rw [e])).2
   omega
  rcases List.mem_append.1 hr with hr | hr
  .obtain ⟨s, hs, hm⟩ := h2 r hr
   exact ⟨s, by omega, hm⟩
  exact ⟨i, by omega, hr⟩
theorem Yb {s : Nat} {r : AV} (hs : s < p.signals.length) (hr : r ∈ MC p (s : Int)) : r ∈ SM p := by
 unfold SM Lr
 exact List.mem_flatMap.2 ⟨s, List.mem_range.2 hs, hr⟩
structure Q7 (p : AW) (n : CT) (l : List AV) : Prop where
 eq : l = (SM p).map (Nh n)
 len : l.length <= 64
theorem Q7.inj (hv : HQ p) (hn : FE p n) {l : List AV} (hb : Q7 p n l) {i k : Nat} {a b : AV} (ha : l[i]? = some a) (hk : l[k]? = some b) (h : a.steps = b.steps) : i = k := by
 rw [hb.eq, List.getElem?_map] at ha hk
 obtain ⟨x, hx, rfl⟩ := Option.map_eq_some_iff.1 ha
 obtain ⟨y, hy, rfl⟩ := Option.map_eq_some_iff.1 hk
 obtain ⟨s, hs, hm⟩ := (J4 hv p.signals.length).2 x (List.mem_of_getElem? hx)
 obtain ⟨s', hs', hm'⟩ := (J4 hv p.signals.length).2 y (List.mem_of_getElem? hy)
 obtain ⟨_, f⟩ := P4 hv hn (NE hm) (show x.needs.length <= 1000 by have := (Hq hm).2.2.2.2.2.2.2.2; omega)
 obtain ⟨_, f'⟩ := P4 hv hn (NE hm') (show y.needs.length <= 1000 by have := (Hq hm').2.2.2.2.2.2.2.2; omega)
 rw [f.steps, f'.steps] at h
 have e := (Qj hv hm hm' h).1
 subst e
 have hnd := (J4 hv p.signals.length).1
 obtain ⟨h1, h2⟩ := List.getElem?_eq_some_iff.1 hx
 obtain ⟨h3, h4⟩ := List.getElem?_eq_some_iff.1 hy
 exact (List.getElem_inj hnd).1 (h2.trans h4.symm)
theorem Q7.have (hv : HQ p) (hn : FE p n) {l : List AV} (hb : Q7 p n l) {s : Nat} {r : AV} (hs : s < p.signals.length) (hr : r ∈ MC p (s : Int)) : ∃ q ∈ l, q = Nh n r /\ q.steps = r.steps := by
 obtain ⟨_, f⟩ := P4 hv hn (NE hr) (show r.needs.length <= 1000 by have := (Hq hr).2.2.2.2.2.2.2.2; omega)
 exact ⟨_, by rw [hb.eq]; exact List.mem_map.2 ⟨r, Yb hs hr, rfl⟩, rfl, f.steps⟩
end
end Go.E
/- Plain Lean: the document's check takes each valid plan. No condition. -/
namespace Go.E
open Go
theorem Xa {α β : Type} {l : List α} {step : Int -> Option (Int ⊕ β)} {b : β} (h0 : step (l.length : Int) = some (.inr b)) (h1 : ∀ (i : Nat) a, l[i]? = some a -> step (i : Int) = some (.inl ((i + 1 : Nat) : Int))) : AY step 0 = some b := by
 obtain ⟨c, hc, rfl⟩ := Eo (l := l) (step := step) (Post := fun c => c = b) (fun _ _ => True) (fun _ => ⟨b, h0, rfl⟩) (fun i a ha _ => .inr ⟨h1 i a ha, trivial⟩)
 exact hc
end Go.E
/- Plain Lean: the program's check answers of every plan that is not too long; what it takes is valid. No condition. -/
namespace Go.E
open Go
end Go.E
/- Plain Lean: the program and the document say the same of what is wrong first with a chart (ProofChecks). No condition. -/
namespace Go.E
open Go
end Go.E
/- Plain Lean: what a book of locks says, whatever the order in which its maps are gone through. No condition. -/
namespace Go.E
open Go
def OJ (m : List (Int × List Int)) (e : Int) : Int := match m.find? (fun p => decide (e ∈ p.2)) with
 | some p => p.1
 | none => -1
def WV (m : List (Int × List Int)) (e : Int) : Prop := ∀ p ∈ m, ∀ q ∈ m, e ∈ p.2 -> e ∈ q.2 -> p.1 = q.1
theorem P5 {m : List (Int × List Int)} {e : Int} (h : WV m e) {q : Int × List Int} (hq : q ∈ m) (he : e ∈ q.2) : OJ m e = q.1 := by
 unfold OJ
 cases hf : m.find? (fun p => decide (e ∈ p.2)) with
 | none => exact absurd he (by simpa using List.find?_eq_none.1 hf q hq)
 | some p => exact h p (List.mem_of_find?_eq_some hf) q hq (by simpa using List.find?_some hf) he
theorem P6 {m : List (Int × List Int)} {e : Int} (h : ∀ p ∈ m, e ∉ p.2) : OJ m e = -1 := by
 unfold OJ
 cases hf : m.find? (fun p => decide (e ∈ p.2)) with
 | none => rfl
 | some p => exact absurd (by simpa using List.find?_some hf) (h p (List.mem_of_find?_eq_some hf))
theorem Lc (b : AS) (e : Int) (h1 : WV b.steps e) (hl : ∀ p ∈ b.steps, p.2.length < 1000000) : Bb b e = some (OJ b.steps e) := by
 unfold Bb
 refine Jw (fun s => (∀ p ∈ s, p ∈ b.steps) /\ ∀ p ∈ b.steps, e ∈ p.2 -> p ∈ s) (fun s hs h0 => ?_) (fun s j y hs hy => ?_) ⟨fun p hp => hp, fun p hp _ => hp⟩
 .simp only [El]
  rw [P6 fun p hp he => by have := hs.2 p hp he; rw [h0] at this; cases this]
 have hmem := hs.1 y (List.mem_of_getElem? hy)
 have hp := HL hy
 simp only [E9, HS y.2 (hl y hmem) e, Option.bind_some]
 by_cases he : e ∈ y.2
 .exact .inl (by rw [decide_eq_true he, P5 h1 hmem he]; rfl)
 refine .inr ⟨s.eraseIdx j, by rw [decide_eq_false he]; rfl, rfl, fun p h => hs.1 p (hp.mem_iff.1 (List.mem_cons_of_mem _ h)), fun p h h' => ?_⟩
 rcases List.mem_cons.1 (hp.mem_iff.2 (hs.2 p h h')) with rfl | h2
 .exact absurd h' he
 exact h2
def OO (m : List (Int × List Int)) (e : Int) : List Int := Dl ((m.filter fun p => decide (e ∈ p.2)).map (·.1))
theorem Lf (b : AS) (e : Int) (hm : b.zone.length < 1000000) (hl : ∀ p ∈ b.zone, p.2.length < 1000000) : CA b e = some (OO b.zone e) := by
 unfold CA
 refine Jw (fun s => (∀ p ∈ s.2, p ∈ b.zone) /\ (s.1 ++ (s.2.filter fun p => decide (e ∈ p.2)).map (·.1)).Perm ((b.zone.filter fun p => decide (e ∈ p.2)).map (·.1))) (fun s hs h0 => ?_) (fun s j y hs hy => ?_) ⟨fun p hp => hp, by simp⟩
 .obtain ⟨a, r⟩ := s
  simp only at h0 hs
  subst h0
  have hp := hs.2
  simp only [List.filter_nil, List.map_nil, List.append_nil] at hp
  have hlen := hp.length_eq
  have h2 := List.length_filter_le (fun p => decide (e ∈ p.2)) b.zone
  rw [List.length_map] at hlen
  have e1 : HH a = some (Dl a) := by unfold HH; rw [if_pos (by omega)]
  simp only [Em, e1, Option.bind_some, Option.map_some, Nw hp]
  rfl
 obtain ⟨a, r⟩ := s
 obtain ⟨h1, h2⟩ := hs
 simp only at h1 h2 hy ⊢
 have hmem := h1 y (List.mem_of_getElem? hy)
 have hp := HL hy
 have hlen := h2.length_eq
 have h3 := List.length_filter_le (fun p => decide (e ∈ p.2)) b.zone
 simp only [List.length_append, List.length_map] at hlen
 have hsub : ∀ p ∈ r.eraseIdx j, p ∈ b.zone := fun p h => h1 p (hp.mem_iff.1 (List.mem_cons_of_mem _ h))
 have hpf := ((hp.filter fun p => decide (e ∈ p.2)).map (·.1))
 simp only [FA, HS y.2 (hl y hmem) e, Option.bind_some]
 by_cases he : e ∈ y.2
 .refine .inr ⟨(a ++ [y.1], r.eraseIdx j), ?_, rfl, hsub, ?_⟩
  .rw [decide_eq_true he, BY (by simp; omega)]; rfl
  rw [List.filter_cons_of_pos (by simpa using he)] at hpf
  simp only [List.append_assoc, List.singleton_append]
  exact (List.Perm.append_left a hpf).trans h2
 refine .inr ⟨(a, r.eraseIdx j), by rw [decide_eq_false he]; rfl, rfl, hsub, ?_⟩
 rw [List.filter_cons_of_neg (by simpa using he)] at hpf
 exact (List.Perm.append_left a hpf).trans h2
def CR (l : List AN) (e : Int) : Option Int := (l.find? fun x => x.elem == e).map (·.pos)
def F5 (b : AS) (o : Int) : List AN := (Aj b.needs o).getD [] ++ (Aj b.guards o).getD []
def CV (b : AS) (e : Int) (m : List (Int × List AN)) : List Int := m.filterMap fun p => CR (F5 b p.1) e
def ZM (b : AS) (e : Int) : Prop := ∀ x ∈ CV b e b.needs, ∀ y ∈ CV b e b.needs, x = y
theorem QW (l : List AN) (e : Int) (hl : l.length < 1000000) {β : Type} {step : Int -> Option (Int ⊕ β)} {no : β} {yes : Int -> β} (h0 : step (l.length : Int) = some (.inr no))
  (h1 : ∀ (i : Nat) x, l[i]? = some x -> step (i : Int) = bif x.elem == e then some (.inr (yes x.pos)) else some (.inl ((i + 1 : Nat) : Int))) : AY step 0 = some (match CR l e with | some q => yes q | none => no) := by
 obtain ⟨b, hb, hp⟩ := Eo (l := l) (step := step) (Post := fun b => b = match CR l e with | some q => yes q | none => no) (fun _ x => x.elem ≠ e) (fun g => ⟨no, h0, by
  have : l.find? (fun x => x.elem == e) = none := List.find?_eq_none.2 fun x hx => by
   obtain ⟨i, hi⟩ := List.mem_iff_getElem?.1 hx
   simpa using g i x hi
  simp only [CR, this, Option.map_none]⟩) (fun i x hx hg => by
  rw [h1 i x hx]
  by_cases he : x.elem = e
  .refine .inl ⟨yes x.pos, by simp [he], ?_⟩
   have : l.find? (fun x => x.elem == e) = some x := by
    rw [List.find?_eq_some_iff_getElem]
    exact ⟨by simpa using he, i, Cl hx, (List.getElem?_eq_some_iff.1 hx).2, fun j hj => by
     have := hg j _ hj (List.getElem?_eq_getElem (by have := Cl hx; omega))
     simpa using this⟩
   simp only [CR, this, Option.map_some]
  exact .inr ⟨by rw [beq_eq_false_iff_ne.2 he]; rfl, he⟩)
 rw [hb, hp]
theorem Nc (b : AS) (e : Int) (hm : b.needs.length < 1000000) (hl : ∀ p ∈ b.needs, ((Aj b.needs p.1).getD []).length < 100000 /\ ((Aj b.guards p.1).getD []).length < 100000) (h1 : ZM b e) :
  Bl b e = some ((CV b e b.needs).headD 0, ((CV b e b.needs).length : Int)) := by
 have hle := List.length_filterMap_le (fun p : Int × List AN => CR (F5 b p.1) e) b.needs
 unfold Bl
 refine Jw (fun s => (∀ p ∈ s.2.2, p ∈ b.needs) /\ 0 <= s.2.1 /\ s.2.1 + ((CV b e s.2.2).length : Int) = ((CV b e b.needs).length : Int) /\ (s.2.1 = 0 -> s.1 = 0) /\ (s.2.1 ≠ 0 -> s.1 = (CV b e b.needs).headD 0)) (fun s hs h0 => ?_) (fun s j y hs hy => ?_) ⟨fun p hp => hp, Int.le_refl _, by simp, fun _ => rfl, fun h => absurd rfl h⟩
 .obtain ⟨x, n, r⟩ := s
  simp only at h0 hs
  subst h0
  obtain ⟨-, a1, a2, a3, a4⟩ := hs
  simp only [CV, List.filterMap_nil, List.length_nil] at a2
  simp only [FB]
  have e1 : n = ((CV b e b.needs).length : Int) := by unfold CV; omega
  have e2 : x = (CV b e b.needs).headD 0 := by
   by_cases hz : n = 0
   .rw [a3 hz]
    have : CV b e b.needs = [] := List.length_eq_zero_iff.1 (by omega)
    rw [this]; rfl
   exact a4 hz
  rw [e1, e2]
 obtain ⟨x, n, r⟩ := s
 obtain ⟨h2, a1, a2, a3, a4⟩ := hs
 simp only at h2 a1 a2 a3 a4 hy ⊢
 have hmem := h2 y (List.mem_of_getElem? hy)
 obtain ⟨l1, l2⟩ := hl y hmem
 have hp := HL hy
 have hsub : ∀ p ∈ r.eraseIdx j, p ∈ b.needs := fun p h => h2 p (hp.mem_iff.1 (List.mem_cons_of_mem _ h))
 have hpl := (hp.filterMap fun p : Int × List AN => CR (F5 b p.1) e).length_eq
 have c1 : BP ((Aj b.needs y.1).getD []) = some ((Aj b.needs y.1).getD []) := Ds _ (by omega)
 have ha : (F5 b y.1).length < 1000000 := by unfold F5; rw [List.length_append]; omega
 simp only [FZ, c1, Option.bind_some, BY (show ((Aj b.needs y.1).getD []).length + ((Aj b.guards y.1).getD []).length <= 4294967296 by omega)]
 have hn : n <= (CV b e b.needs).length := by omega
 have hlt : (CV b e b.needs).length < 1000000 := by unfold CV; omega
 have L := QW (F5 b y.1) e ha (step := DL e (x, n, r) (r.eraseIdx j) (F5 b y.1)) (no := .inl (x, n, r.eraseIdx j)) (yes := fun q => .inl (q, Ak (n + 1), r.eraseIdx j)) (by simp only [DL, Dw, cond_false]) (fun i z hz => by
  have := Cl hz
  simp only [DL, Cc hz, cond_true, A0, hz, Option.bind_some, As (show i < 1000000000 by omega)])
 unfold F5 at L
 rw [L]
 cases hf : CR ((Aj b.needs y.1).getD [] ++ (Aj b.guards y.1).getD []) e with
 | none =>
  refine .inr ⟨(x, n, r.eraseIdx j), rfl, rfl, hsub, a1, ?_, a3, a4⟩
  rw [List.filterMap_cons_none (by unfold F5; exact hf)] at hpl
  simp only
  unfold CV at a2 ⊢
  omega
 | some q =>
  have hq : q ∈ CV b e b.needs := List.mem_filterMap.2 ⟨y, hmem, by unfold F5; exact hf⟩
  have hhd : q = (CV b e b.needs).headD 0 := by
   cases hh : CV b e b.needs with
   | nil => rw [hh] at hq; cases hq
   | cons z zs => exact h1 q hq z (by rw [hh]; simp)
  rw [List.filterMap_cons_some (by unfold F5; exact hf), List.length_cons] at hpl
  have hw : Ak (n + 1) = n + 1 := DW (by omega) (by omega)
  refine .inr ⟨(q, Ak (n + 1), r.eraseIdx j), rfl, rfl, hsub, ?_, ?_, fun h => ?_, fun _ => hhd⟩
  .simp only [hw]; omega
  .simp only [hw]; unfold CV at a2 ⊢; omega
  simp only [hw] at h; omega
end Go.E
/- Plain Lean: of two roads each is taken for itself; which is refused beside the other. No condition. -/
namespace Go.E
open Go
structure Ca (n : Int) (r : AV) : Prop where
 one : 1 <= r.steps.length
 ls : r.steps.length <= 1000
 ln : r.needs.length <= 1000
 lg : r.guards.length <= 1000
 lz : r.zone.length <= 1000
 step : ∀ s ∈ r.steps, 0 <= s.elem /\ s.elem < n
 once : (r.steps.map (·.elem)).Nodup
 zone : ∀ e ∈ r.zone, 0 <= e /\ e < n /\ e ∉ r.steps.map (·.elem)
 need : ∀ x ∈ r.needs ++ r.guards, (0 <= x.elem /\ x.elem < n) /\ (x.pos = 1 \/ x.pos = 2)
 cons : Lm (r.needs ++ r.guards)
theorem Ni (b : AS) (e : Int) : DU b e = some (decide (0 <= e) && decide (e < b.elems)) := by
 unfold DU
 cases decide (0 <= e) <;> rfl
theorem SC (b : AS) (r : AV) (h : Ca b.elems r) : Cn b r = some true := by
 have h1 := h.one; have h2 := h.ls; have h3 := h.ln; have h4 := h.lg; have h5 := h.lz
 unfold Cn
 rw [beq_eq_false_iff_ne.2 (show ((r.steps.length : Int)) ≠ 0 by omega)]
 simp only [cond_false]
 have one4 : ∀ (i : Nat) (l done : List AN) (s : Int × List (Int × Int)), s.1 = (i : Int) -> i <= 2 -> l.length <= 1000 -> (∀ x ∈ done ++ l, (0 <= x.elem /\ x.elem < b.elems) /\ (x.pos = 1 \/ x.pos = 2)) -> Lm (done ++ l) -> (∀ k v, Aj s.2 k = some v -> ∃ x ∈ done, x.elem = k /\ x.pos = v) ->
   ∃ c', AY (B0 b s l) (0, s.2) = some (.inl (((i + 1 : Nat) : Int), c')) /\ ∀ k v, Aj c' k = some v -> ∃ x ∈ done ++ l, x.elem = k /\ x.pos = v := by
  intro i l done s hs hi hl hx hc hI
  obtain ⟨t, ht, c', rfl, hc'⟩ : ∃ t, AY (B0 b s l) (0, s.2) = some t /\ ∃ c', t = .inl (((i + 1 : Nat) : Int), c') /\ ∀ k v, Aj c' k = some v -> ∃ x ∈ done ++ l, x.elem = k /\ x.pos = v := by
   refine GF (l := l) (fun j c => ∀ k v, Aj c k = some v -> ∃ x ∈ done ++ l.take j, x.elem = k /\ x.pos = v) (fun c hc' => ?_) (fun j x c hj hc' => ?_) (c := s.2) (fun k v hk => by obtain ⟨x, hx, e⟩ := hI k v hk; exact ⟨x, by simpa using hx, e⟩)
   .rw [List.take_length] at hc'
    exact ⟨_, by simp only [B0, Dw, cond_false, hs, As (show i < 1000000000 by omega)], c, rfl, hc'⟩
   have hjl := Cl hj
   have hm : x ∈ done ++ l := List.mem_append_right _ (List.mem_of_getElem? hj)
   obtain ⟨⟨x1, x2⟩, x3⟩ := hx x hm
   have hp : ((bif (x.pos != 1) then bif (x.pos != 2) then some true else bif (Aj c x.elem).isSome then some (((Aj c x.elem).getD 0) != x.pos) else some false else bif (Aj c x.elem).isSome then some (((Aj c x.elem).getD 0) != x.pos) else some false : Option Bool)) = some false := by
    have hq : ((bif (Aj c x.elem).isSome then some (((Aj c x.elem).getD 0) != x.pos) else some false : Option Bool)) = some false := by
     cases ha : Aj c x.elem with
     | none => rfl
     | some v =>
      obtain ⟨y, hy, y1, y2⟩ := hc' _ _ ha
      have hy' : y ∈ done ++ l := by
       rcases List.mem_append.1 hy with hy | hy
       .exact List.mem_append_left _ hy
       exact List.mem_append_right _ (List.mem_of_mem_take hy)
      have := hc y hy' x hm y1
      simp only [Option.isSome_some, cond_true, Option.getD_some, Option.some.injEq, bne_eq_false_iff_eq]
      omega
    rcases x3 with x3 | x3 <;> simp only [x3] at hq ⊢ <;> exact hq
   refine .inr ⟨BO x.elem x.pos c, ?_, fun k v hk => ?_⟩
   .simp only [B0, Cc hj, cond_true, A0, hj, Option.bind_some, Ni, decide_eq_true x1, decide_eq_true x2, Bool.and_self, Bool.not_true, cond_false, hp, As (show j < 1000000000 by omega)]
   rw [FY] at hk
   rw [List.take_add_one, hj]
   by_cases e : k = x.elem
   .rw [if_pos e] at hk; cases hk
    exact ⟨x, by simp, e.symm, rfl⟩
   rw [if_neg e] at hk
   obtain ⟨y, hy, e2⟩ := hc' k v hk
   exact ⟨y, by rw [<- List.append_assoc]; exact List.mem_append_left _ hy, e2⟩
  exact ⟨c', ht, hc'⟩
 have l3 : AY (BS b r) (0, []) = some true := by
  obtain ⟨c1, e1, d1⟩ := one4 0 r.needs [] (0, []) rfl (by omega) h3 (fun x hx => h.need x (List.mem_append_left _ (by simpa using hx))) (fun x hx y hy => h.cons x (List.mem_append_left _ (by simpa using hx)) y (List.mem_append_left _ (by simpa using hy))) (fun k v hk => by simp [Aj] at hk)
  obtain ⟨c2, e2, d2⟩ := one4 1 r.guards r.needs (1, c1) rfl (by omega) h4 h.need h.cons (fun k v hk => by simpa using d1 k v hk)
  have i0 : Ar ([r.needs, r.guards] : List (List AN)) 0 = some r.needs := rfl
  have i1 : Ar ([r.needs, r.guards] : List (List AN)) 1 = some r.guards := rfl
  have s1 : BS b r (0, []) = some (.inl (1, c1)) := by
   simp only [BS, i0, Option.bind_some]; rw [e1]; rfl
  have s2 : BS b r (1, c1) = some (.inl (2, c2)) := by
   simp only [BS, i1, Option.bind_some]; rw [e2]; rfl
  rw [CJ s1, CJ s2]
  exact B8 rfl
 obtain ⟨t, ht, rfl⟩ : ∃ t, AY (CN b r) (0, []) = some t /\ t = true := by
  refine GF (l := r.steps) (fun j c => ∀ e, (Aj c e).getD false = decide (e ∈ (r.steps.take j).map (·.elem))) (fun c hc => ?_) (fun j s c hj hc => ?_) (c := []) (fun e => by simp [Aj])
  .rw [List.take_length] at hc
   refine ⟨true, ?_, rfl⟩
   have l2 : AY (CC b r ((r.steps.length : Int), c)) 0 = some true := Xa (l := r.zone) (by simp only [CC, Dw, cond_false, l3]; rfl) (fun i e he => by
    have := Cl he
    obtain ⟨z1, z2, z3⟩ := h.zone e (List.mem_of_getElem? he)
    simp only [CC, Cc he, cond_true, A0, he, Option.bind_some, Ni, decide_eq_true z1, decide_eq_true z2, Bool.and_self, Bool.not_true, cond_false, hc, decide_eq_false z3, As (show i < 1000000000 by omega)])
   simp only [CN, Dw, cond_false, l2]; rfl
  have := Cl hj
  obtain ⟨s1, s2⟩ := h.step s (List.mem_of_getElem? hj)
  have hnew : s.elem ∉ (r.steps.take j).map (·.elem) := by
   intro hm
   obtain ⟨x, hx, hxe⟩ := List.mem_map.1 hm
   obtain ⟨i, hi, hie⟩ := WU hx
   have a1 : (r.steps.map (·.elem))[i]? = some s.elem := by rw [List.getElem?_map, hie]; simp [hxe]
   have a2 : (r.steps.map (·.elem))[j]? = some s.elem := by rw [List.getElem?_map, hj]; rfl
   have := (List.getElem?_inj (Cl a1) h.once).1 (a1.trans a2.symm)
   omega
  refine .inr ⟨BO s.elem true c, ?_, fun e => ?_⟩
  .simp only [CN, Cc hj, cond_true, A0, hj, Option.bind_some, Ni, decide_eq_true s1, decide_eq_true s2, Bool.and_self, Bool.not_true, cond_false, hc, decide_eq_false hnew, As (show j < 1000000000 by omega)]
  rw [FY, EH hj]
  by_cases he : e = s.elem
  .simp [he]
  rw [if_neg he, hc]; simp only [List.mem_append, List.mem_singleton, he, or_false]
 exact ht
end Go.E
/- Plain Lean: what may be taken from a book of none, and beside one road (May, Take). No condition. -/
namespace Go.E
open Go
theorem Gt {α β : Type} {l : List α} {step : Int -> Option (Int ⊕ β)} (bad : α -> Bool) (x : β) (fin : Option β) (h0 : step (l.length : Int) = fin.map .inr)
  (h1 : ∀ (i : Nat) a, l[i]? = some a -> step (i : Int) = bif bad a then some (.inr x) else some (.inl ((i + 1 : Nat) : Int))) : AY step 0 = if l.any bad = true then some x else fin := by
 refine M8 (γ := Unit) l (fun i _ => (i : Int)) (fun _ _ r => if r.any bad = true then some x else fin) (fun _ => ?_) (fun i _ a r ha hi => ?_) ()
 .rw [h0]; simp
 cases hb : bad a with
 | true => left; rw [h1 i a ha, hb]; simp [hb]
 | false => right; exact ⟨(), by rw [h1 i a ha, hb]; rfl, by simp [hb]⟩
def HP (ow : Int -> Int) (zo : Int -> List Int) (po : Int -> Int) (r : AV) : Int :=
 if (r.steps.any fun s => decide (0 <= ow s.elem) || decide (0 < ((zo s.elem).length : Int))) = true then 14 else if (r.zone.any fun e => decide (0 <= ow e)) = true then 14 else
  if (r.needs.any fun x => (po x.elem != 0) && (po x.elem != x.pos)) = true then 15 else if (r.guards.any fun x => (po x.elem != 0) && (po x.elem != x.pos)) = true then 15 else 0
theorem PP (b : AS) (o : Int) (r : AV) (hr : Ca b.elems r) (ho : 0 <= o) (hh : BL b o = some false) {ow : Int -> Int} {zo : Int -> List Int} {po : Int -> Int}
  (hO : ∀ e, Bb b e = some (ow e)) (hZ : ∀ e, CA b e = some (zo e)) (hH : ∀ e, ∃ k, Bl b e = some (po e, k)) : BB b o r = some (HP ow zo po r) := by
 have h2 := hr.ls; have h3 := hr.ln; have h4 := hr.lg; have h5 := hr.lz
 unfold BB
 simp only [decide_eq_false (show ¬ o < 0 by omega), cond_false, hh, Option.bind_some, SC b r hr, Bool.not_true]
 have l4 : ∀ (l : List AN) (i : Nat), l.length <= 1000 -> i <= 2 -> AY (CZ b (i : Int) l) 0 = if (l.any fun x => (po x.elem != 0) && (po x.elem != x.pos)) = true then some (.inr 15) else some (.inl ((i + 1 : Nat) : Int)) := by
  intro l i hl hi
  refine Gt (l := l) _ _ _ (by simp only [CZ, Dw, cond_false, As (show i < 1000000000 by omega)]; rfl) (fun j x hx => ?_)
  have := Cl hx
  obtain ⟨k, hk⟩ := hH x.elem
  simp only [CZ, Cc hx, cond_true, A0, hx, Option.bind_some, hk, As (show j < 1000000000 by omega)]
  cases (po x.elem != 0) <;> rfl
 have i0 : Ar ([r.needs, r.guards] : List (List AN)) 0 = some r.needs := rfl
 have i1 : Ar ([r.needs, r.guards] : List (List AN)) 1 = some r.guards := rfl
 have s0 : CD b r 0 = AY (CZ b ((0 : Nat) : Int) r.needs) 0 := by
  simp only [CD, i0, Option.bind_some]; rfl
 have s1 : CD b r 1 = AY (CZ b ((1 : Nat) : Int) r.guards) 0 := by
  simp only [CD, i1, Option.bind_some]; rfl
 have l3 : AY (CD b r) 0 = some (if (r.needs.any fun x => (po x.elem != 0) && (po x.elem != x.pos)) = true then 15 else if (r.guards.any fun x => (po x.elem != 0) && (po x.elem != x.pos)) = true then 15 else 0) := by
  rw [l4 _ 0 h3 (by omega)] at s0
  rw [l4 _ 1 h4 (by omega)] at s1
  by_cases c : (r.needs.any fun x => (po x.elem != 0) && (po x.elem != x.pos)) = true
  .rw [if_pos c] at s0 ⊢
   exact B8 s0
  rw [if_neg c] at s0 ⊢
  rw [CJ s0]
  show AY (CD b r) 1 = _
  by_cases c2 : (r.guards.any fun x => (po x.elem != 0) && (po x.elem != x.pos)) = true
  .rw [if_pos c2] at s1 ⊢
   exact B8 s1
  rw [if_neg c2] at s1 ⊢
  rw [CJ s1]
  exact B8 rfl
 have l2 := Gt (l := r.zone) (step := Cz b r) (fun e => decide (0 <= ow e)) 14 (AY (CD b r) 0) (by simp only [Cz, Dw, cond_false]) (fun i e he => by
  have := Cl he
  simp only [Cz, Cc he, cond_true, A0, he, Option.bind_some, hO, As (show i < 1000000000 by omega)])
 have l1 := Gt (l := r.steps) (step := Df b r) (fun s => decide (0 <= ow s.elem) || decide (0 < ((zo s.elem).length : Int))) 14 (AY (Cz b r) 0) (by simp only [Df, Dw, cond_false]) (fun i s hs => by
  have := Cl hs
  simp only [Df, Cc hs, cond_true, A0, hs, Option.bind_some, hO, hZ, As (show i < 1000000000 by omega)]
  cases decide (0 <= ow s.elem) <;> rfl)
 rw [l1, l2, l3]
 unfold HP
 repeat' split
 all_goals rfl
theorem P2 (b : AS) (o : Int) (r : AV) {e : Int} (h : BB b o r = some e) (he : e ≠ 0) : BE b o r = some (b, e) := by
 have he' : (e != 0) = true := bne_iff_ne.2 he
 unfold BE
 rw [h]
 simp only [Option.bind_some, he', cond_true]
theorem OK (b : AS) (o : Int) (r : AV) (hr : Ca b.elems r) (h : BB b o r = some 0) :
  BE b o r = some (⟨b.elems, BO o (r.steps.map (·.elem)) b.steps, BO o r.zone b.zone, BO o r.needs b.needs, BO o r.guards b.guards⟩, 0) := by
 have h2 := hr.ls; have h3 := hr.ln; have h4 := hr.lg; have h5 := hr.lz
 unfold BE
 rw [h]
 simp only [Option.bind_some, bne_self_eq_false, cond_false]
 obtain ⟨t, ht, rfl⟩ := GF (l := r.steps) (step := DM b o r) (Post := fun t => t = (⟨b.elems, BO o (r.steps.map (·.elem)) b.steps, BO o r.zone b.zone, BO o r.needs b.needs, BO o r.guards b.guards⟩, 0)) (fun i c => c = (r.steps.take i).map (·.elem)) (fun c hc => by
   rw [List.take_length] at hc
   subst hc
   have c1 : B2 r.zone = some r.zone := Ds _ (by omega)
   have c2 : BP r.needs = some r.needs := Ds _ (by omega)
   have c3 : BP r.guards = some r.guards := Ds _ (by omega)
   exact ⟨_, by simp only [DM, Dw, cond_false, c1, c2, c3, Option.bind_some, Option.map_some], rfl⟩) (fun i a c ha hc => by
   subst hc
   have := Cl ha
   refine .inr ⟨_, ?_, (EH ha).symm⟩
   simp only [DM, Cc ha, cond_true, A0, ha, Option.bind_some, BY (l := (r.steps.take i).map (·.elem)) (m := [a.elem]) (by simp; omega), As (show i < 1000000000 by omega)]) (c := []) rfl
 exact ht
def Nd (n : Int) : AS := ⟨n, [], [], [], []⟩
def DB (n a : Int) (r : AV) : AS := ⟨n, [(a, r.steps.map (·.elem))], [(a, r.zone)], [(a, r.needs)], [(a, r.guards)]⟩
def R2 (a c : AV) : Int := HP (fun e => if e ∈ a.steps.map (·.elem) then 0 else -1) (fun e => if e ∈ a.zone then [0] else []) (fun e => (CR (a.needs ++ a.guards) e).getD 0) c
theorem Yv (n o : Int) (r : AV) (hr : Ca n r) (ho : 0 <= o) : BE (Nd n) o r = some (DB n o r, 0) := by
 have h := PP (Nd n) o r hr ho rfl (ow := fun _ => -1) (zo := fun _ => []) (po := fun _ => 0)
  (fun e => by rw [Lc _ _ (fun p hp => by cases hp) (fun p hp => by cases hp)]; rfl)
  (fun e => by rw [Lf _ _ (by simp [Nd]) (fun p hp => by cases hp)]; rfl)
  (fun e => ⟨0, by rw [Nc _ _ (by simp [Nd]) (fun p hp => by cases hp) (fun x hx => by cases hx)]; rfl⟩)
 have h0 : HP (fun _ => -1) (fun _ => []) (fun _ => 0) r = 0 := by
  unfold HP
  simp
 rw [h0] at h
 rw [OK (Nd n) o r hr h]
 rfl
theorem Xb {ow ow' : Int -> Int} {zo zo' : Int -> List Int} {po : Int -> Int} (r : AV) (h1 : ∀ e, (0 <= ow e ↔ 0 <= ow' e)) (h2 : ∀ e, (zo e).length = (zo' e).length) : HP ow zo po r = HP ow' zo' po r := by
 unfold HP
 have e1 : ∀ e, decide (0 <= ow e) = decide (0 <= ow' e) := fun e => decide_eq_decide.2 (h1 e)
 simp only [e1, h2]
theorem X7 (n o q : Int) (a c : AV) (ha : Ca n a) (hc : Ca n c) (ho : 0 <= o) (hq : 0 <= q) (hne : q ≠ o) : BB (DB n o a) q c = some (R2 a c) := by
 have hN : CV (DB n o a) = fun e m => m.filterMap fun p => CR (F5 (DB n o a) p.1) e := rfl
 have hall : F5 (DB n o a) o = a.needs ++ a.guards := by simp [F5, DB, Aj]
 have h := PP (DB n o a) q c hc hq (by
   have : (q == o) = false := beq_eq_false_iff_ne.2 hne
   unfold BL
   simp only [DB, Aj, this, Bool.false_eq_true, if_false, Option.getD_none]
   rfl) (ow := fun e => if e ∈ a.steps.map (·.elem) then o else -1) (zo := fun e => if e ∈ a.zone then [o] else []) (po := fun e => (CR (a.needs ++ a.guards) e).getD 0)
  (fun e => by
   rw [Lc _ _ (fun p hp p' hp' _ _ => by simp [DB] at hp hp'; rw [hp, hp']) (fun p hp => by simp [DB] at hp; subst hp; have := ha.ls; simp; omega)]
   by_cases he : e ∈ a.steps.map (·.elem)
   .simp only [if_pos he]
    rw [P5 (q := (o, a.steps.map (·.elem))) (fun p hp p' hp' _ _ => by simp [DB] at hp hp'; rw [hp, hp']) (by simp [DB]) he]
   simp only [if_neg he]
   rw [P6 fun p hp => by simp only [DB, List.mem_singleton] at hp; subst hp; exact he])
  (fun e => by
   rw [Lf _ _ (by simp [DB]) (fun p hp => by simp [DB] at hp; subst hp; have := ha.lz; simp; omega)]
   by_cases he : e ∈ a.zone
   .simp only [if_pos he, OO, DB, List.filter_cons, decide_eq_true he]; rfl
   simp only [if_neg he, OO, DB, List.filter_cons, decide_eq_false he]; rfl)
  (fun e => by
   have hL : CV (DB n o a) e (DB n o a).needs = (CR (a.needs ++ a.guards) e).toList := by
    show [(o, a.needs)].filterMap _ = _
    simp only [List.filterMap_cons, List.filterMap_nil, hall]
    cases CR (a.needs ++ a.guards) e <;> rfl
   refine ⟨((CR (a.needs ++ a.guards) e).toList.length : Int), (Nc _ _ (by simp [DB]) (fun p hp => ?_) (fun x hx y hy => ?_)).trans ?_⟩
   .simp only [DB, List.mem_singleton] at hp
    subst hp
    have := ha.ln; have := ha.lg
    simp [DB, Aj]; omega
   .rw [hL] at hx hy
    cases hf : CR (a.needs ++ a.guards) e with
    | none => rw [hf] at hx; cases hx
    | some v => rw [hf] at hx hy; simp at hx hy; rw [hx, hy]
   rw [hL]
   cases CR (a.needs ++ a.guards) e <;> rfl)
 rw [Xb (ow' := fun e => if e ∈ a.steps.map (·.elem) then 0 else -1) (zo' := fun e => if e ∈ a.zone then [0] else []) c (fun e => by split <;> omega) (fun e => by split <;> rfl)] at h
 exact h
end Go.E
/- Plain Lean: which of two roads is refused beside the other, as the book and as the document say; LockClash. No condition. -/
namespace Go.E
open Go
def WW (a c : AV) : Prop := (∃ s ∈ c.steps, s.elem ∈ a.steps.map (·.elem) \/ s.elem ∈ a.zone) \/ ∃ e ∈ c.zone, e ∈ a.steps.map (·.elem)
def WX (a c : AV) : Prop := ∃ x ∈ c.needs ++ c.guards, ∃ y ∈ a.needs ++ a.guards, y.elem = x.elem /\ y.pos ≠ x.pos
theorem WW.symm {a c : AV} (h : WW a c) : WW c a := by
 rcases h with ⟨s, hs, h | h⟩ | ⟨e, he, h⟩
 .obtain ⟨t, ht, e⟩ := List.mem_map.1 h
  exact .inl ⟨t, ht, .inl (e ▸ List.mem_map_of_mem hs)⟩
 .exact .inr ⟨s.elem, h, List.mem_map_of_mem hs⟩
 obtain ⟨t, ht, e2⟩ := List.mem_map.1 h
 exact .inl ⟨t, ht, .inr (e2 ▸ he)⟩
theorem WX.symm {a c : AV} (h : WX a c) : WX c a := by
 obtain ⟨x, hx, y, hy, e1, e2⟩ := h
 exact ⟨y, hy, x, hx, e1.symm, fun e => e2 e.symm⟩
theorem II {l : List AN} {e v : Int} (h : CR l e = some v) : ∃ y ∈ l, y.elem = e /\ y.pos = v := by
 unfold CR at h
 obtain ⟨y, hy, rfl⟩ := Option.map_eq_some_iff.1 h
 exact ⟨y, List.mem_of_find?_eq_some hy, by simpa using List.find?_some hy, rfl⟩
theorem VS {l : List AN} {e : Int} (h : CR l e = none) : ∀ y ∈ l, y.elem ≠ e := by
 unfold CR at h
 intro y hy he
 have := List.find?_eq_none.1 (Option.map_eq_none_iff.1 h) y hy
 simp [he] at this
end Go.E
/- Plain Lean: two roads of a plan, each taken first (LockClash). No condition. -/
namespace Go.E
open Go
end Go.E
/- Plain Lean: the owners of a book, whatever the order. No condition. -/
namespace Go.E
open Go
def KQ (b : AS) (o : Int) : Bool := decide (0 < Ak ((Ak ((((Aj b.steps o).getD []).length : Int) + (((Aj b.zone o).getD []).length : Int))) + (((Aj b.guards o).getD []).length : Int)))
def Wv (b : AS) : List Int := Dl ((b.steps.filter fun p => KQ b p.1).map (·.1))
theorem QS (b : AS) (hm : b.steps.length < 1000000) : CI b = some (Wv b) := by
 unfold CI
 refine Jw (fun s => (s.1 ++ (s.2.filter fun p => KQ b p.1).map (·.1)).Perm ((b.steps.filter fun p => KQ b p.1).map (·.1))) (fun s hs h0 => ?_) (fun s j y hs hy => ?_) (by simp)
 .obtain ⟨a, r⟩ := s
  simp only at h0 hs
  subst h0
  have hp := hs
  simp only [List.filter_nil, List.map_nil, List.append_nil] at hp
  have hlen := hp.length_eq
  have h2 := List.length_filter_le (fun p => KQ b p.1) b.steps
  rw [List.length_map] at hlen
  have e1 : HH a = some (Dl a) := by unfold HH; rw [if_pos (by omega)]
  simp only [Eb, e1, Option.bind_some, Option.map_some, Nw hp]
  rfl
 obtain ⟨a, r⟩ := s
 simp only at hs hy ⊢
 have hp := HL hy
 have hlen := hs.length_eq
 have h3 := List.length_filter_le (fun p => KQ b p.1) b.steps
 simp only [List.length_append, List.length_map] at hlen
 have hpf := ((hp.filter fun p => KQ b p.1).map (·.1))
 have hh : BL b y.1 = some (KQ b y.1) := rfl
 simp only [En, hh, Option.bind_some]
 cases he : KQ b y.1 with
 | true =>
  refine .inr ⟨(a ++ [y.1], r.eraseIdx j), ?_, rfl, ?_⟩
  .rw [BY (by simp; omega)]; rfl
  rw [List.filter_cons_of_pos (by simpa using he)] at hpf
  simp only [List.append_assoc, List.singleton_append]
  exact (List.Perm.append_left a hpf).trans hs
 | false =>
  refine .inr ⟨(a, r.eraseIdx j), rfl, rfl, ?_⟩
  rw [List.filter_cons_of_neg (by simp [he])] at hpf
  exact (List.Perm.append_left a hpf).trans hs
end Go.E
/- Plain Lean: whether a road suits a book is answered of every road (right). No condition. -/
namespace Go.E
open Go
structure KM (r : AV) : Prop where
 ls : r.steps.length <= 1000
 ln : r.needs.length <= 1000
 lg : r.guards.length <= 1000
 lz : r.zone.length <= 1000
theorem Ny (b : AS) (r : AV) (h : KM r) : ∃ t, Cn b r = some t /\ (t = true -> Ca b.elems r) := by
 have h2 := h.ls; have h3 := h.ln; have h4 := h.lg; have h5 := h.lz
 unfold Cn
 by_cases h0 : (r.steps.length : Int) = 0
 .exact ⟨false, by simp only [h0, beq_self_eq_true, cond_true], by simp⟩
 rw [beq_eq_false_iff_ne.2 h0]
 simp only [cond_false]
 have one4 : ∀ (i : Nat) (l done : List AN) (s : Int × List (Int × Int)), s.1 = (i : Int) -> i <= 2 -> l.length <= 1000 -> (∀ x ∈ done, (0 <= x.elem /\ x.elem < b.elems) /\ (x.pos = 1 \/ x.pos = 2)) -> Lm done -> (∀ x ∈ done, Aj s.2 x.elem = some x.pos) -> (∀ k v, Aj s.2 k = some v -> ∃ x ∈ done, x.elem = k /\ x.pos = v) ->
   ∃ t, AY (B0 b s l) (0, s.2) = some t /\ (t = .inr false \/ ∃ c', t = .inl (((i + 1 : Nat) : Int), c') /\ (∀ x ∈ done ++ l, (0 <= x.elem /\ x.elem < b.elems) /\ (x.pos = 1 \/ x.pos = 2)) /\ Lm (done ++ l) /\ (∀ x ∈ done ++ l, Aj c' x.elem = some x.pos) /\ ∀ k v, Aj c' k = some v -> ∃ x ∈ done ++ l, x.elem = k /\ x.pos = v) := by
  intro i l done s hs hi hl hx hc hI hJ
  refine GF (l := l) (fun j c => (∀ x ∈ done ++ l.take j, (0 <= x.elem /\ x.elem < b.elems) /\ (x.pos = 1 \/ x.pos = 2)) /\ Lm (done ++ l.take j) /\ (∀ x ∈ done ++ l.take j, Aj c x.elem = some x.pos) /\ ∀ k v, Aj c k = some v -> ∃ x ∈ done ++ l.take j, x.elem = k /\ x.pos = v) (fun c hc' => ?_) (fun j x c hj hc' => ?_) (c := s.2) (by simpa using ⟨hx, hc, hI, hJ⟩)
  .rw [List.take_length] at hc'
   exact ⟨_, by simp only [B0, Dw, cond_false, hs, As (show i < 1000000000 by omega)], .inr ⟨c, rfl, hc'⟩⟩
  have hjl := Cl hj
  obtain ⟨d1, d2, d3, d4⟩ := hc'
  simp only [B0, Cc hj, cond_true, A0, hj, Option.bind_some, Ni, As (show j < 1000000000 by omega)]
  by_cases x1 : 0 <= x.elem
  .by_cases x2 : x.elem < b.elems
   .simp only [decide_eq_true x1, decide_eq_true x2, Bool.and_self, Bool.not_true, cond_false]
    by_cases x3 : x.pos = 1 \/ x.pos = 2
    .have hp : ((bif (x.pos != 1) then bif (x.pos != 2) then some true else bif (Aj c x.elem).isSome then some (((Aj c x.elem).getD 0) != x.pos) else some false else bif (Aj c x.elem).isSome then some (((Aj c x.elem).getD 0) != x.pos) else some false : Option Bool)) = some ((Aj c x.elem).isSome && ((Aj c x.elem).getD 0 != x.pos)) := by
      rcases x3 with x3 | x3 <;> simp only [x3] <;> cases (Aj c x.elem).isSome <;> rfl
     rw [hp]
     simp only [Option.bind_some]
     cases hq : ((Aj c x.elem).isSome && ((Aj c x.elem).getD 0 != x.pos)) with
     | true => exact .inl ⟨_, rfl, .inl rfl⟩
     | false =>
      have e1 : l.take (j + 1) = l.take j ++ [x] := by rw [List.take_add_one, hj]; rfl
      have hold : ∀ y ∈ done ++ l.take j, y.elem = x.elem -> y.pos = x.pos := fun y hy he => by
       have := d3 y hy
       rw [he] at this
       rw [this] at hq
       simpa using hq
      have hmem : ∀ y, y ∈ done ++ l.take (j + 1) ↔ y ∈ done ++ l.take j \/ y = x := fun y => by
       rw [e1, <- List.append_assoc, List.mem_append, List.mem_singleton]
      refine .inr ⟨BO x.elem x.pos c, rfl, fun y hy => ?_, fun y hy z hz he => ?_, fun y hy => ?_, fun k v hk => ?_⟩
      .rcases (hmem y).1 hy with hy | rfl
       .exact d1 y hy
       exact ⟨⟨x1, x2⟩, x3⟩
      .rcases (hmem y).1 hy with hy | rfl
       .rcases (hmem z).1 hz with hz | rfl
        .exact d2 y hy z hz he
        exact hold y hy he
       rcases (hmem z).1 hz with hz | rfl
       .exact (hold z hz he.symm).symm
       rfl
      .rw [FY]
       rcases (hmem y).1 hy with hy | rfl
       .by_cases he : y.elem = x.elem
        .rw [if_pos he, hold y hy he]
        rw [if_neg he]; exact d3 y hy
       rw [if_pos rfl]
      rw [FY] at hk
      by_cases he : k = x.elem
      .rw [if_pos he] at hk; cases hk
       exact ⟨x, (hmem x).2 (.inr rfl), he.symm, rfl⟩
      rw [if_neg he] at hk
      obtain ⟨y, hy, e2⟩ := d4 k v hk
      exact ⟨y, (hmem y).2 (.inl hy), e2⟩
    have y1 : (x.pos != 1) = true := bne_iff_ne.2 fun h => x3 (.inl h)
    have y2 : (x.pos != 2) = true := bne_iff_ne.2 fun h => x3 (.inr h)
    exact .inl ⟨_, by simp only [y1, y2, cond_true, Option.bind_some], .inl rfl⟩
   exact .inl ⟨_, by simp only [decide_eq_false x2, Bool.and_false, Bool.not_false, cond_true, Option.bind_some], .inl rfl⟩
  exact .inl ⟨_, by simp only [decide_eq_false x1, Bool.false_and, Bool.not_false, cond_true, Option.bind_some], .inl rfl⟩
 have i0 : Ar ([r.needs, r.guards] : List (List AN)) 0 = some r.needs := rfl
 have i1 : Ar ([r.needs, r.guards] : List (List AN)) 1 = some r.guards := rfl
 obtain ⟨t3, l3, p3⟩ : ∃ t, AY (BS b r) (0, []) = some t /\ (t = true -> (∀ x ∈ r.needs ++ r.guards, (0 <= x.elem /\ x.elem < b.elems) /\ (x.pos = 1 \/ x.pos = 2)) /\ Lm (r.needs ++ r.guards)) := by
  obtain ⟨u, e1, d⟩ := one4 0 r.needs [] (0, []) rfl (by omega) h3 (fun x hx => by cases hx) (fun x hx => by cases hx) (fun x hx => by cases hx) (fun k v hk => by simp [Aj] at hk)
  have s1 : BS b r (0, []) = some u := by
   simp only [BS, i0, Option.bind_some]; rw [e1]; rfl
  rcases d with rfl | ⟨c1, rfl, d1, d2, d3, d4⟩
  .exact ⟨false, B8 s1, by simp⟩
  simp only [List.nil_append] at d1 d2 d3 d4
  obtain ⟨u, e1, d⟩ := one4 1 r.guards r.needs (1, c1) rfl (by omega) h4 d1 d2 d3 d4
  have s2 : BS b r (1, c1) = some u := by
   simp only [BS, i1, Option.bind_some]; rw [e1]; rfl
  rw [CJ s1]
  show ∃ t, AY (BS b r) (1, c1) = some t /\ _
  rcases d with rfl | ⟨c2, rfl, d1, d2, -, -⟩
  .exact ⟨false, B8 s2, by simp⟩
  rw [CJ s2]
  exact ⟨true, B8 rfl, fun _ => ⟨d1, d2⟩⟩
 refine GF (l := r.steps) (fun j c => (∀ e, (Aj c e).getD false = decide (e ∈ (r.steps.take j).map (·.elem))) /\ ((r.steps.take j).map (·.elem)).Nodup /\ ∀ s ∈ r.steps.take j, 0 <= s.elem /\ s.elem < b.elems) (fun c hc => ?_) (fun j s c hj hc => ?_) (c := []) ⟨fun e => by simp [Aj], by simp, by simp⟩
 .rw [List.take_length] at hc
  obtain ⟨c1, c2, c3⟩ := hc
  obtain ⟨t, ht, hp⟩ : ∃ t, AY (CC b r ((r.steps.length : Int), c)) 0 = some t /\ (t = true -> Ca b.elems r) := by
   refine Eo (l := r.zone) (fun _ e => 0 <= e /\ e < b.elems /\ e ∉ r.steps.map (·.elem)) (fun g => ⟨t3, by simp only [CC, Dw, cond_false, l3]; rfl, fun h' => ⟨by omega, h2, h3, h4, h5, c3, c2, fun e he => ?_, (p3 h').1, (p3 h').2⟩⟩) (fun i e he _ => ?_)
   .obtain ⟨i, hi⟩ := List.mem_iff_getElem?.1 he
    exact g i e hi
   have := Cl he
   simp only [CC, Cc he, cond_true, A0, he, Option.bind_some, Ni, c1, As (show i < 1000000000 by omega)]
   by_cases x1 : 0 <= e
   .by_cases x2 : e < b.elems
    .by_cases x3 : e ∈ r.steps.map (·.elem)
     .exact .inl ⟨false, by simp only [decide_eq_true x1, decide_eq_true x2, decide_eq_true x3, Bool.and_self, Bool.not_true, cond_false, Option.bind_some, cond_true], by simp⟩
     exact .inr ⟨by simp only [decide_eq_true x1, decide_eq_true x2, decide_eq_false x3, Bool.and_self, Bool.not_true, cond_false, Option.bind_some], x1, x2, x3⟩
    exact .inl ⟨false, by simp only [decide_eq_false x2, Bool.and_false, Bool.not_false, cond_true, Option.bind_some], by simp⟩
   exact .inl ⟨false, by simp only [decide_eq_false x1, Bool.false_and, Bool.not_false, cond_true, Option.bind_some], by simp⟩
  exact ⟨t, by simp only [CN, Dw, cond_false, ht]; rfl, hp⟩
 obtain ⟨c1, c2, c3⟩ := hc
 have := Cl hj
 simp only [CN, Cc hj, cond_true, A0, hj, Option.bind_some, Ni, c1, As (show j < 1000000000 by omega)]
 by_cases x1 : 0 <= s.elem
 .by_cases x2 : s.elem < b.elems
  .by_cases x3 : s.elem ∈ (r.steps.take j).map (·.elem)
   .exact .inl ⟨false, by simp only [decide_eq_true x1, decide_eq_true x2, decide_eq_true x3, Bool.and_self, Bool.not_true, cond_false, Option.bind_some, cond_true], by simp⟩
   refine .inr ⟨BO s.elem true c, by simp only [decide_eq_true x1, decide_eq_true x2, decide_eq_false x3, Bool.and_self, Bool.not_true, cond_false, Option.bind_some], fun e => ?_, ?_, fun q hq => ?_⟩
   .rw [FY, EH hj]
    by_cases he : e = s.elem
    .simp [he]
    rw [if_neg he, c1]; simp only [List.mem_append, List.mem_singleton, he, or_false]
   .rw [EH hj, List.nodup_append]
    exact ⟨c2, by simp, fun x hx y hy e => by simp at hy; subst hy; subst e; exact x3 hx⟩
   rw [List.take_add_one, hj] at hq
   rcases List.mem_append.1 hq with hq | hq
   .exact c3 q hq
   simp at hq; subst hq; exact ⟨x1, x2⟩
  exact .inl ⟨false, by simp only [decide_eq_false x2, Bool.and_false, Bool.not_false, cond_true, Option.bind_some], by simp⟩
 exact .inl ⟨false, by simp only [decide_eq_false x1, Bool.false_and, Bool.not_false, cond_true, Option.bind_some], by simp⟩
end Go.E
/- Plain Lean: a book as a row of owners with what they hold; Has, Owner, Zones, Held, May, Take on it. No condition. -/
namespace Go.E
open Go
structure Bn where
 st : List Int
 zn : List Int
 nd : List AN
 gd : List AN
def bk (n : Int) (L : List (Int × Bn)) : AS := ⟨n, L.map fun p => (p.1, p.2.st), L.map fun p => (p.1, p.2.zn), L.map fun p => (p.1, p.2.nd), L.map fun p => (p.1, p.2.gd)⟩
def FF (r : AV) : Bn := ⟨r.steps.map (·.elem), r.zone, r.needs, r.guards⟩
structure CO (L : List (Int × Bn)) : Prop where
 keys : (L.map (·.1)).Nodup
 pos : ∀ p ∈ L, 0 <= p.1
 len : L.length <= 1000
 small : ∀ p ∈ L, (p.2.st.length <= 1000 /\ p.2.zn.length <= 1000) /\ p.2.nd.length <= 1000 /\ p.2.gd.length <= 1000
 holds : ∀ p ∈ L, 0 < p.2.st.length + p.2.zn.length + p.2.gd.length
 apart : ∀ p ∈ L, ∀ q ∈ L, ∀ e, e ∈ p.2.st -> e ∈ q.2.st -> p.1 = q.1
 zone : ∀ p ∈ L, ∀ q ∈ L, ∀ e, e ∈ p.2.st -> e ∉ q.2.zn
 agree : ∀ p ∈ L, ∀ q ∈ L, ∀ x ∈ p.2.nd ++ p.2.gd, ∀ y ∈ q.2.nd ++ q.2.gd, x.elem = y.elem -> x.pos = y.pos
 posn : ∀ p ∈ L, ∀ x ∈ p.2.nd ++ p.2.gd, x.pos = 1 \/ x.pos = 2
theorem CF {α : Type} {L : List (Int × Bn)} (f : Bn -> α) (hk : (L.map (·.1)).Nodup) {p : Int × Bn} (hp : p ∈ L) : Aj (L.map fun p => (p.1, f p.2)) p.1 = some (f p.2) := by
 induction L with
 | nil => cases hp
 | cons q L ih =>
  simp only [List.map_cons, List.nodup_cons] at hk
  simp only [List.map_cons, Aj]
  rcases List.mem_cons.1 hp with rfl | hp
  .simp
  have : ¬ p.1 = q.1 := fun e => hk.1 (e ▸ List.mem_map_of_mem hp)
  rw [if_neg (by simpa using this)]
  exact ih hk.2 hp
theorem Jy {α : Type} {L : List (Int × Bn)} (f : Bn -> α) {o : Int} (ho : o ∉ L.map (·.1)) : Aj (L.map fun p => (p.1, f p.2)) o = none := by
 induction L with
 | nil => rfl
 | cons q L ih =>
  simp only [List.map_cons, List.mem_cons, not_or] at ho
  simp only [List.map_cons, Aj]
  rw [if_neg (by simpa using ho.1)]
  exact ih ho.2
theorem Lw {α : Type} {L : List (Int × Bn)} (f : Bn -> α) {o : Int} (v : α) (ho : o ∉ L.map (·.1)) : BO o v (L.map fun p => (p.1, f p.2)) = (L.map fun p => (p.1, f p.2)) ++ [(o, v)] := by
 induction L with
 | nil => rfl
 | cons q L ih =>
  simp only [List.map_cons, List.mem_cons, not_or] at ho
  simp only [List.map_cons, BO, List.cons_append]
  rw [if_neg (by simpa using ho.1), ih ho.2]
variable {n : Int} {L : List (Int × Bn)}
theorem Iq (hI : CO L) (o : Int) : BL (bk n L) o = some (decide (o ∈ L.map (·.1))) := by
 unfold BL
 refine congrArg some (decide_eq_decide.2 ?_)
 simp only [bk]
 by_cases ho : o ∈ L.map (·.1)
 .obtain ⟨p, hp, rfl⟩ := List.mem_map.1 ho
  obtain ⟨⟨s1, s2⟩, s3, s4⟩ := hI.small p hp
  have s5 := hI.holds p hp
  rw [CF (·.st) hI.keys hp, CF (·.zn) hI.keys hp, CF (·.gd) hI.keys hp]
  simp only [Option.getD_some]
  rw [DW (n := (p.2.st.length : Int) + (p.2.zn.length : Int)) (by omega) (by omega), DW (n := (p.2.st.length : Int) + (p.2.zn.length : Int) + (p.2.gd.length : Int)) (by omega) (by omega)]
  exact ⟨fun _ => ho, fun _ => by omega⟩
 rw [Jy (·.st) ho, Jy (·.zn) ho, Jy (·.gd) ho]
 exact ⟨fun h => absurd h (by decide), fun h => absurd h ho⟩
def Ho (L : List (Int × Bn)) (e : Int) : Int := OJ (L.map fun p => (p.1, p.2.st)) e
theorem Ww (hI : CO L) (e : Int) : WV (L.map fun p => (p.1, p.2.st)) e := by
 intro a ha b hb h1 h2
 obtain ⟨p, hp, rfl⟩ := List.mem_map.1 ha
 obtain ⟨q, hq, rfl⟩ := List.mem_map.1 hb
 exact hI.apart p hp q hq e h1 h2
theorem P0 (hI : CO L) (e : Int) : Bb (bk n L) e = some (Ho L e) := Lc (bk n L) e (Ww hI e) (fun a ha => by
 obtain ⟨p, hp, rfl⟩ := List.mem_map.1 ha
 have := (hI.small p hp).1.1
 simp only; omega)
theorem TX (hI : CO L) {e : Int} {p : Int × Bn} (hp : p ∈ L) (he : e ∈ p.2.st) : Ho L e = p.1 := P5 (Ww hI e) (q := (p.1, p.2.st)) (List.mem_map.2 ⟨p, hp, rfl⟩) he
theorem TW {e : Int} (h : ∀ p ∈ L, e ∉ p.2.st) : Ho L e = -1 := P6 fun a ha => by
 obtain ⟨p, hp, rfl⟩ := List.mem_map.1 ha
 exact h p hp
theorem P7 (hI : CO L) (e : Int) : 0 <= Ho L e ↔ ∃ p ∈ L, e ∈ p.2.st := by
 constructor
 .intro h
  refine Classical.byContradiction fun hn => ?_
  rw [TW fun p hp he => hn ⟨p, hp, he⟩] at h
  exact absurd h (by decide)
 rintro ⟨p, hp, he⟩
 rw [TX hI hp he]
 exact hI.pos p hp
def Hn (L : List (Int × Bn)) (e : Int) : List Int := OO (L.map fun p => (p.1, p.2.zn)) e
theorem P1 (hI : CO L) (e : Int) : CA (bk n L) e = some (Hn L e) := Lf (bk n L) e (by have := hI.len; simp [bk]; omega) (fun a ha => by
 obtain ⟨p, hp, rfl⟩ := List.mem_map.1 ha
 have := (hI.small p hp).1.2
 simp only; omega)
theorem Xc (e : Int) : 0 < (Hn L e).length ↔ ∃ p ∈ L, e ∈ p.2.zn := by
 unfold Hn OO
 rw [(Ch _).length_eq, List.length_map, List.length_pos_iff_exists_mem]
 constructor
 .rintro ⟨a, ha⟩
  obtain ⟨h1, h2⟩ := List.mem_filter.1 ha
  obtain ⟨p, hp, rfl⟩ := List.mem_map.1 h1
  exact ⟨p, hp, by simpa using h2⟩
 rintro ⟨p, hp, he⟩
 exact ⟨(p.1, p.2.zn), List.mem_filter.2 ⟨List.mem_map.2 ⟨p, hp, rfl⟩, by simpa using he⟩⟩
theorem Yc (hI : CO L) {p : Int × Bn} (hp : p ∈ L) : F5 (bk n L) p.1 = p.2.nd ++ p.2.gd := by
 unfold F5
 simp only [bk]
 rw [CF (·.nd) hI.keys hp, CF (·.gd) hI.keys hp]
 rfl
def Fa (L : List (Int × Bn)) (e : Int) : Int := (L.filterMap fun p => CR (p.2.nd ++ p.2.gd) e).headD 0
def UL (L : List (Int × Bn)) (e : Int) : Int := ((L.filterMap fun p => CR (p.2.nd ++ p.2.gd) e).length : Int)
theorem Xd (hI : CO L) (e : Int) : CV (bk n L) e (bk n L).needs = L.filterMap fun p => CR (p.2.nd ++ p.2.gd) e := by
 unfold CV
 show List.filterMap _ (L.map fun p => (p.1, p.2.nd)) = _
 rw [List.filterMap_map]
 have : ∀ M : List (Int × Bn), (∀ p ∈ M, p ∈ L) -> M.filterMap ((fun p : Int × List AN => CR (F5 (bk n L) p.1) e) ∘ fun p => (p.1, p.2.nd)) = M.filterMap fun p => CR (p.2.nd ++ p.2.gd) e := by
  intro M
  induction M with
  | nil => intro _; rfl
  | cons q M ih =>
   intro h
   simp only [List.filterMap_cons, Function.comp, Yc (n := n) hI (h q (by simp))]
   have := ih fun p hp => h p (List.mem_cons_of_mem _ hp)
   rw [<- this]
 exact this L fun p hp => hp
theorem SD (hI : CO L) (e : Int) : Bl (bk n L) e = some (Fa L e, UL L e) := by
 have hh := Xd (n := n) hI e
 rw [Nc (bk n L) e (by have := hI.len; simp [bk]; omega) (fun a ha => ?_) (fun x hx y hy => ?_), hh]
 .rfl
 .obtain ⟨p, hp, rfl⟩ := List.mem_map.1 ha
  obtain ⟨-, s3, s4⟩ := hI.small p hp
  simp only [bk]
  rw [CF (·.nd) hI.keys hp, CF (·.gd) hI.keys hp]
  simp only [Option.getD_some]; omega
 rw [hh] at hx hy
 obtain ⟨p, hp, h1⟩ := List.mem_filterMap.1 hx
 obtain ⟨q, hq, h2⟩ := List.mem_filterMap.1 hy
 obtain ⟨a, ha, a1, a2⟩ := II h1
 obtain ⟨b, hb, b1, b2⟩ := II h2
 rw [<- a2, <- b2]
 exact hI.agree p hp q hq a ha b hb (a1.trans b1.symm)
theorem Xe (hI : CO L) {p : Int × Bn} (hp : p ∈ L) {x : AN} (hx : x ∈ p.2.nd ++ p.2.gd) : Fa L x.elem = x.pos := by
 unfold Fa
 cases hl : L.filterMap fun p => CR (p.2.nd ++ p.2.gd) x.elem with
 | nil =>
  cases hf : CR (p.2.nd ++ p.2.gd) x.elem with
  | none => exact absurd rfl (VS hf x hx)
  | some v =>
   have : v ∈ L.filterMap fun p => CR (p.2.nd ++ p.2.gd) x.elem := List.mem_filterMap.2 ⟨p, hp, hf⟩
   rw [hl] at this; cases this
 | cons v l =>
  have : v ∈ L.filterMap fun p => CR (p.2.nd ++ p.2.gd) x.elem := by rw [hl]; simp
  obtain ⟨q, hq, h1⟩ := List.mem_filterMap.1 this
  obtain ⟨a, ha, a1, a2⟩ := II h1
  simp only [List.headD_cons]
  rw [<- a2]
  exact hI.agree q hq p hp a ha x hx a1
def YN (n : Int) (L : List (Int × Bn)) (r : AV) : Int := HP (Ho L) (Hn L) (Fa L) r
theorem YP (hI : CO L) (hl : L.length < 1000) (o : Int) (ho : 0 <= o) (r : AV) (hr : KM r) :
  ∃ v, BB (bk n L) o r = some v /\ BE (bk n L) o r = some (bk n (if v = 0 then L ++ [(o, FF r)] else L), v) /\ (v = 0 -> CO (L ++ [(o, FF r)]) /\ o ∉ L.map (·.1) /\ Ca n r) := by
 obtain ⟨t, ht, hR⟩ := Ny (bk n L) r hr
 have arg : BB (bk n L) o r = some 1 -> ∃ v, BB (bk n L) o r = some v /\ BE (bk n L) o r = some (bk n (if v = 0 then L ++ [(o, FF r)] else L), v) /\ (v = 0 -> CO (L ++ [(o, FF r)]) /\ o ∉ L.map (·.1) /\ Ca n r) := fun h =>
  ⟨1, h, by rw [if_neg (by decide)]; exact P2 _ _ _ h (by decide), fun h => absurd h (by decide)⟩
 by_cases hm : o ∈ L.map (·.1)
 .refine arg ?_
  unfold BB
  simp only [decide_eq_false (show ¬ o < 0 by omega), cond_false, Iq hI, decide_eq_true hm, Option.bind_some, cond_true]
 cases t with
 | false =>
  refine arg ?_
  unfold BB
  simp only [decide_eq_false (show ¬ o < 0 by omega), cond_false, Iq hI, decide_eq_false hm, Option.bind_some, ht, Bool.not_false, cond_true]
 | true =>
  have hP : Ca n r := hR rfl
  have hmay := PP (bk n L) o r hP ho (by rw [Iq hI, decide_eq_false hm]) (P0 hI) (P1 hI) (fun e => ⟨_, SD hI e⟩)
  refine ⟨_, hmay, ?_, fun h0 => ?_⟩
  .by_cases h0 : HP (Ho L) (Hn L) (Fa L) r = 0
   .rw [if_pos h0]
    rw [h0] at hmay ⊢
    rw [OK (bk n L) o r hP hmay]
    simp only [bk, Lw (·.st) _ hm, Lw (·.zn) _ hm, Lw (·.nd) _ hm, Lw (·.gd) _ hm, List.map_append, List.map_cons, List.map_nil, FF]
   rw [if_neg h0]
   exact P2 _ _ _ hmay h0
  have noS : ∀ s ∈ r.steps, ¬ (0 <= Ho L s.elem) /\ ¬ (0 < (Hn L s.elem).length) := fun s hs => by
   unfold HP at h0
   split at h0
   .exact absurd h0 (by decide)
   rename_i hc
   have : ¬ ((decide (0 <= Ho L s.elem) || decide (0 < ((Hn L s.elem).length : Int))) = true) := fun h => hc (List.any_eq_true.2 ⟨s, hs, h⟩)
   simp only [Bool.or_eq_true, decide_eq_true_eq, not_or] at this
   exact ⟨this.1, by omega⟩
  have noZ : ∀ e ∈ r.zone, ¬ (0 <= Ho L e) := fun e he => by
   unfold HP at h0
   split at h0
   .exact absurd h0 (by decide)
   split at h0
   .exact absurd h0 (by decide)
   rename_i hc
   exact fun h => hc (List.any_eq_true.2 ⟨e, he, by simpa using h⟩)
  have noP : ∀ x ∈ r.needs ++ r.guards, Fa L x.elem = 0 \/ Fa L x.elem = x.pos := fun x hx => by
   unfold HP at h0
   split at h0
   .exact absurd h0 (by decide)
   split at h0
   .exact absurd h0 (by decide)
   split at h0
   .exact absurd h0 (by decide)
   split at h0
   .exact absurd h0 (by decide)
   rename_i c1 c2
   have : ¬ (((Fa L x.elem != 0) && (Fa L x.elem != x.pos)) = true) := fun h => by
    rcases List.mem_append.1 hx with hx | hx
    .exact c1 (List.any_eq_true.2 ⟨x, hx, h⟩)
    exact c2 (List.any_eq_true.2 ⟨x, hx, h⟩)
   simp only [Bool.and_eq_true, bne_iff_ne, not_and, Decidable.not_not] at this
   by_cases hz : Fa L x.elem = 0
   .exact .inl hz
   exact .inr (this hz)
  have cross : ∀ p ∈ L, ∀ x ∈ p.2.nd ++ p.2.gd, ∀ y ∈ r.needs ++ r.guards, x.elem = y.elem -> x.pos = y.pos := fun p hp x hx y hy he => by
   have h1 := Xe hI hp hx
   have h2 := hI.posn p hp x hx
   have h3 := noP y hy
   rw [<- he, h1] at h3
   omega
  have m : ∀ p, p ∈ L ++ [(o, FF r)] ↔ p ∈ L \/ p = (o, FF r) := fun p => by rw [List.mem_append, List.mem_singleton]
  refine ⟨⟨?_, fun p hp => ?_, by rw [List.length_append]; simp; omega, fun p hp => ?_, fun p hp => ?_, fun p hp q hq e h1 h2 => ?_, fun p hp q hq e h1 h2 => ?_, fun p hp q hq x hx y hy he => ?_, fun p hp x hx => ?_⟩, hm, hP⟩
  .rw [List.map_append, List.nodup_append]
   exact ⟨hI.keys, by simp, fun a ha b hb e => by simp at hb; subst hb; subst e; exact hm ha⟩
  .rcases (m p).1 hp with hp | rfl
   .exact hI.pos p hp
   exact ho
  .rcases (m p).1 hp with hp | rfl
   .exact hI.small p hp
   exact ⟨⟨by simp [FF]; exact hr.ls, hr.lz⟩, hr.ln, hr.lg⟩
  .rcases (m p).1 hp with hp | rfl
   .exact hI.holds p hp
   have := hP.one; simp [FF]; omega
  .rcases (m p).1 hp with hp | rfl
   .rcases (m q).1 hq with hq | rfl
    .exact hI.apart p hp q hq e h1 h2
    obtain ⟨s, hs, rfl⟩ := List.mem_map.1 h2
    exact absurd ((P7 hI _).2 ⟨p, hp, h1⟩) (noS s hs).1
   rcases (m q).1 hq with hq | rfl
   .obtain ⟨s, hs, rfl⟩ := List.mem_map.1 h1
    exact absurd ((P7 hI _).2 ⟨q, hq, h2⟩) (noS s hs).1
   rfl
  .rcases (m p).1 hp with hp | rfl
   .rcases (m q).1 hq with hq | rfl
    .exact hI.zone p hp q hq e h1 h2
    exact noZ e h2 ((P7 hI _).2 ⟨p, hp, h1⟩)
   obtain ⟨s, hs, rfl⟩ := List.mem_map.1 h1
   rcases (m q).1 hq with hq | rfl
   .exact (noS s hs).2 ((Xc _).2 ⟨q, hq, h2⟩)
   exact (hP.zone _ h2).2.2 h1
  .rcases (m p).1 hp with hp | rfl
   .rcases (m q).1 hq with hq | rfl
    .exact hI.agree p hp q hq x hx y hy he
    exact cross p hp x hx y hy he
   rcases (m q).1 hq with hq | rfl
   .exact (cross q hq y hy x hx he.symm).symm
   exact hP.cons x hx y hy he
  rcases (m p).1 hp with hp | rfl
  .exact hI.posn p hp x hx
  exact (hP.need x hx).2
end Go.E
/- Plain Lean: Drop and Owners on a row of owners; what is taken and dropped leaves no trace. No condition. -/
namespace Go.E
open Go
variable {n : Int} {L : List (Int × Bn)}
theorem PQ {o : Int} : ∀ {L : List (Int × Bn)}, o ∉ L.map (·.1) -> L.filter (fun p => !(decide (p.1 = o))) = L := fun ho => List.filter_eq_self.2 fun p hp => by
 have : ¬ p.1 = o := fun e => ho (e ▸ List.mem_map_of_mem hp)
 simp [this]
theorem Kw {α : Type} (f : Bn -> α) (o : Int) : ∀ L : List (Int × Bn), (L.map (·.1)).Nodup -> D8 o (L.map fun p => (p.1, f p.2)) = (L.filter fun p => !(decide (p.1 = o))).map fun p => (p.1, f p.2)
 | [], _ => rfl
 | q :: L, hk => by
  simp only [List.map_cons, List.nodup_cons] at hk
  have ih := Kw f o L hk.2
  simp only [List.map_cons, D8]
  by_cases h : o = q.1
  .rw [if_pos (by simpa using h), List.filter_cons_of_neg (by simp [h])]
   rw [PQ (h ▸ hk.1)]
  have h' : ¬ q.1 = o := fun e => h e.symm
  rw [if_neg (by simpa using h), List.filter_cons_of_pos (by simp [h']), ih]
  rfl
theorem VH (hI : CO L) (o : Int) : Bm (bk n L) o = some (bk n (L.filter fun p => !(decide (p.1 = o))), decide (o ∈ L.map (·.1))) := by
 unfold Bm
 have hh : BL ⟨(bk n L).elems, (bk n L).steps, (bk n L).zone, (bk n L).needs, (bk n L).guards⟩ o = some (decide (o ∈ L.map (·.1))) := Iq (n := n) hI o
 rw [hh]
 simp only [Option.bind_some]
 by_cases ho : o ∈ L.map (·.1)
 .rw [decide_eq_true ho]
  simp only [Bool.not_true, cond_false, bk, Kw _ _ _ hI.keys]
 rw [decide_eq_false ho]
 have : L.filter (fun p => !(decide (p.1 = o))) = L := List.filter_eq_self.2 fun p hp => by
  have : ¬ p.1 = o := fun e => ho (e ▸ List.mem_map_of_mem hp)
  simp [this]
 rw [this]
 rfl
theorem CO.drop (hI : CO L) (o : Int) : CO (L.filter fun p => !(decide (p.1 = o))) := by
 have m : ∀ p ∈ L.filter (fun p => !(decide (p.1 = o))), p ∈ L := fun p hp => (List.mem_filter.1 hp).1
 refine ⟨?_, fun p hp => hI.pos p (m p hp), Nat.le_trans (List.length_filter_le _ _) hI.len, fun p hp => hI.small p (m p hp), fun p hp => hI.holds p (m p hp), fun p hp q hq => hI.apart p (m p hp) q (m q hq), fun p hp q hq => hI.zone p (m p hp) q (m q hq), fun p hp q hq => hI.agree p (m p hp) q (m q hq), fun p hp => hI.posn p (m p hp)⟩
 exact List.Sublist.nodup (List.Sublist.map _ List.filter_sublist) hI.keys
theorem WE (hI : CO L) : CI (bk n L) = some (Dl (L.map (·.1))) := by
 have hl := hI.len
 rw [QS (bk n L) (by simp [bk]; omega)]
 refine congrArg some ?_
 unfold Wv
 have h1 : (bk n L).steps.filter (fun p => KQ (bk n L) p.1) = (bk n L).steps := List.filter_eq_self.2 fun a ha => by
  have h2 : BL (bk n L) a.1 = some (KQ (bk n L) a.1) := rfl
  rw [Iq hI] at h2
  obtain ⟨p, hp, rfl⟩ := List.mem_map.1 ha
  have : (p.1 : Int) ∈ L.map (·.1) := List.mem_map_of_mem hp
  rw [decide_eq_true this] at h2
  exact (Option.some.inj h2).symm
 rw [h1]
 simp only [bk, List.map_map]
 rfl
end Go.E
/- Plain Lean: what is taken and dropped leaves no trace (LockBack). No condition. -/
namespace Go.E
open Go
end Go.E
/- Plain Lean: Free on a row of owners. No condition. -/
namespace Go.E
open Go
variable {n : Int} {L : List (Int × Bn)}
theorem Pw {α : Type} (f : Bn -> α) (v : α) (o : Int) : ∀ {L : List (Int × Bn)}, (L.map (·.1)).Nodup -> o ∈ L.map (·.1) -> BO o v (L.map fun p => (p.1, f p.2)) = L.map fun p => (p.1, if p.1 = o then v else f p.2)
 | [], _, h => by cases h
 | q :: L, hk, h => by
  simp only [List.map_cons, List.nodup_cons] at hk
  simp only [List.map_cons, List.mem_cons] at h
  simp only [List.map_cons, BO]
  by_cases e : o = q.1
  .rw [if_pos (by simpa using e), if_pos e.symm, e]
   refine congrArg _ (List.map_congr_left fun p hp => ?_)
   have : ¬ p.1 = q.1 := fun e2 => hk.1 (e2 ▸ List.mem_map_of_mem hp)
   rw [if_neg this]
  rw [if_neg (by simpa using e), if_neg (fun e2 => e e2.symm)]
  rw [Pw f v o hk.2 (h.resolve_left e)]
def Fj (e : Int) (b : Bn) : Bn := ⟨b.st.filter fun x => !(decide (x = e)), b.zn, b.nd.filter fun x => !(decide (x.elem = e)), b.gd⟩
def freeM (L : List (Int × Bn)) (o e : Int) : List (Int × Bn) := L.map fun q => if q.1 = o then (q.1, Fj e q.2) else q
def Jx (b : Bn) : Bool := decide (0 < b.st.length + b.zn.length + b.gd.length)
def GG (L : List (Int × Bn)) (o e : Int) : List (Int × Bn) := (freeM L o e).filter fun q => !(decide (q.1 = o)) || Jx q.2
theorem PO (o e : Int) : (freeM L o e).map (·.1) = L.map (·.1) := by
 unfold freeM
 rw [List.map_map]
 refine List.map_congr_left fun q _ => ?_
 simp only [Function.comp]
 split <;> rfl
theorem YK (hk : (L.map (·.1)).Nodup) {p : Int × Bn} (hp : p ∈ L) (s1 : p.2.st.length <= 1000) (s2 : p.2.zn.length <= 1000) (s3 : p.2.gd.length <= 1000) : BL (bk n L) p.1 = some (Jx p.2) := by
 unfold BL
 refine congrArg some (decide_eq_decide.2 ?_)
 simp only [bk]
 rw [CF (·.st) hk hp, CF (·.zn) hk hp, CF (·.gd) hk hp]
 simp only [Option.getD_some]
 rw [DW (n := (p.2.st.length : Int) + (p.2.zn.length : Int)) (by omega) (by omega), DW (n := (p.2.st.length : Int) + (p.2.zn.length : Int) + (p.2.gd.length : Int)) (by omega) (by omega)]
 omega
theorem SA (l : List Int) (hl : l.length < 1000000) (x : Int) : ∃ t, CY l x = some t /\ ((t = -1 /\ x ∉ l) \/ (0 <= t /\ x ∈ l /\ Ar l t = some x)) := by
 unfold CY
 obtain ⟨t, h1, h2⟩ := HO (l := l) (f := fun a => x == a) hl (step := B7 l x) (by simp [B7]) (fun i a ha => by
  have := Cl ha
  simp only [B7, Cc ha, cond_true, A0, ha, Option.bind_some, As (show i < 1000000000 by omega)]
  cases hb : (x == a) <;> simp)
 refine ⟨t, h1, ?_⟩
 rcases h2 with ⟨rfl, h2⟩ | ⟨a, h0, h2, h3⟩
 .exact .inl ⟨rfl, fun h => by have := List.find?_eq_none.1 h2 x h; simp at this⟩
 have hm := List.mem_of_find?_eq_some h2
 have he := List.find?_some h2
 simp only [beq_iff_eq] at he
 subst he
 exact .inr ⟨h0, hm, h3⟩
theorem UI {l : List Int} (hn : l.Nodup) {i : Nat} {x : Int} (h : l[i]? = some x) : l.take i ++ l.drop (i + 1) = l.filter fun y => !(decide (y = x)) := by
 induction l generalizing i with
 | nil => simp at h
 | cons a l ih =>
  rw [List.nodup_cons] at hn
  cases i with
  | zero =>
   simp at h; subst h
   rw [List.filter_cons_of_neg (by simp)]
   simp only [List.take_zero, List.nil_append, List.drop_succ_cons, List.drop_zero, Nat.zero_add]
   symm
   exact List.filter_eq_self.2 fun y hy => by
    have : ¬ y = a := fun e => hn.1 (e ▸ hy)
    simp [this]
  | succ i =>
   simp at h
   have hm : x ∈ l := List.mem_of_getElem? h
   have : ¬ a = x := fun e => hn.1 (e ▸ hm)
   rw [List.filter_cons_of_pos (by simp [this])]
   simp only [List.take_succ_cons, List.cons_append, List.drop_succ_cons]
   rw [ih hn.2 h]
theorem XO (hI : CO L) {o e : Int} (h : ∀ p ∈ L, p.1 = o -> e ∉ p.2.st) : B5 (bk n L) o e = some (bk n L, false) := by
 have key : (Aj (bk n L).steps o).getD [] = [] \/ ∃ p ∈ L, p.1 = o /\ (Aj (bk n L).steps o).getD [] = p.2.st := by
  by_cases ho : o ∈ L.map (·.1)
  .obtain ⟨p, hp, rfl⟩ := List.mem_map.1 ho
   exact .inr ⟨p, hp, rfl, by simp only [bk]; rw [CF (·.st) hI.keys hp]; rfl⟩
  exact .inl (by simp only [bk]; rw [Jy (·.st) ho]; rfl)
 have h2 : e ∉ (Aj (bk n L).steps o).getD [] /\ ((Aj (bk n L).steps o).getD []).length < 1000000 := by
  rcases key with h' | ⟨p, hp, h1, h'⟩
  .rw [h']; simp
  rw [h']; exact ⟨h p hp h1, by have := (hI.small p hp).1.1; omega⟩
 obtain ⟨t, t1, t2⟩ := SA _ h2.2 e
 unfold B5
 rw [t1]
 rcases t2 with ⟨rfl, -⟩ | ⟨-, h3, -⟩
 .rfl
 exact absurd h3 h2.1
theorem UJ (b : AS) (o e : Int) (ys : List Int) (l : List AN) (hl : (Aj b.needs o).getD [] = l) (hn : l.length <= 1000) : AY (B6 b o e ys) (0, ([] : List AN)) =
  AY (B6 b o e ys) ((l.length : Int), l.filter fun x => !(decide (x.elem = e))) := by
 have key : ∀ i, i <= l.length -> AY (B6 b o e ys) (0, ([] : List AN)) = AY (B6 b o e ys) ((i : Int), (l.take i).filter fun x => !(decide (x.elem = e))) := by
  intro i
  induction i with
  | zero => intro _; rfl
  | succ i ih =>
   intro hi
   have hlt : i < l.length := by omega
   have ha : l[i]? = some l[i] := List.getElem?_eq_getElem hlt
   rw [ih (by omega)]
   refine CJ ?_
   have hb := List.length_filter_le (fun x : AN => !(decide (x.elem = e))) (l.take i)
   rw [List.length_take] at hb
   rw [List.take_add_one, ha, Option.toList_some, List.filter_append]
   simp only [B6, hl, Cc ha, cond_true, A0, ha, Option.bind_some, UH]
   by_cases c : l[i].elem = e
   .rw [if_pos c, List.filter_cons_of_neg (by simp [c])]
    simp only [Option.bind_some, List.filter_nil, List.append_nil, As (show i < 1000000000 by omega)]
   rw [if_neg c, List.filter_cons_of_pos (by simp [c]), BY (by simp; omega)]
   simp only [Option.bind_some, List.filter_nil, As (show i < 1000000000 by omega)]
 have := key l.length (Nat.le_refl _)
 rw [List.take_length] at this
 exact this
theorem WA (hI : CO L) {p : Int × Bn} (hp : p ∈ L) (hs : p.2.st.Nodup) {e : Int} (he : e ∈ p.2.st) : B5 (bk n L) p.1 e = some (bk n (GG L p.1 e), true) := by
 obtain ⟨⟨s1, s2⟩, s3, s4⟩ := hI.small p hp
 have hm : p.1 ∈ L.map (·.1) := List.mem_map_of_mem hp
 have e1 : (Aj (bk n L).steps p.1).getD [] = p.2.st := by simp only [bk]; rw [CF (·.st) hI.keys hp]; rfl
 have e2 : (Aj (bk n L).needs p.1).getD [] = p.2.nd := by simp only [bk]; rw [CF (·.nd) hI.keys hp]; rfl
 obtain ⟨t, t1, t2⟩ := SA p.2.st (by omega) e
 rcases t2 with ⟨-, t2⟩ | ⟨t0, -, t2⟩
 .exact absurd he t2
 obtain ⟨i, rfl⟩ := Int.eq_ofNat_of_zero_le t0
 have hi : i < p.2.st.length := (List.getElem?_eq_some_iff.1 t2).1
 have c1 : B2 p.2.st = some p.2.st := Ds _ (by omega)
 have c2 : Rh p.2.st (i : Int) (Ak ((i : Int) + 1)) = some (p.2.st.filter fun y => !(decide (y = e))) := by
  rw [As (by omega), <- UI hs t2]
  unfold Rh
  rw [if_pos (by omega)]
  rfl
 unfold B5
 simp only [e1, t1, Option.bind_some, decide_eq_false (show ¬ ((i : Int) < 0) by omega), cond_false, c1, c2]
 rw [UJ _ _ _ _ p.2.nd e2 s3]
 have hbk : (⟨(bk n L).elems, BO p.1 (p.2.st.filter fun y => !(decide (y = e))) (bk n L).steps, (bk n L).zone, BO p.1 (p.2.nd.filter fun x => !(decide (x.elem = e))) (bk n L).needs, (bk n L).guards⟩ : AS) = bk n (freeM L p.1 e) := by
  simp only [bk, Pw (·.st) _ _ hI.keys hm, Pw (·.nd) _ _ hI.keys hm, freeM, List.map_map]
  have same : ∀ q ∈ L, q.1 = p.1 -> q = p := fun q hq h1 => by
   have a1 := CF (fun b => b) hI.keys hq
   have a2 := CF (fun b => b) hI.keys hp
   rw [h1, a2] at a1
   exact Prod.ext h1 (Option.some.inj a1).symm
  congr 1 <;> refine List.map_congr_left fun q hq => ?_
  .by_cases c : q.1 = p.1
   .simp [Function.comp, c, Fj, same q hq c]
   simp [Function.comp, c]
  .by_cases c : q.1 = p.1 <;> simp [Function.comp, c, Fj]
  .by_cases c : q.1 = p.1
   .simp [Function.comp, c, Fj, same q hq c]
   simp [Function.comp, c]
  by_cases c : q.1 = p.1 <;> simp [Function.comp, c, Fj]
 have hk2 : ((freeM L p.1 e).map (·.1)).Nodup := by rw [PO]; exact hI.keys
 have hp2 : (p.1, Fj e p.2) ∈ freeM L p.1 e := List.mem_map.2 ⟨p, hp, by simp⟩
 have hh := YK (n := n) hk2 hp2 (Nat.le_trans (List.length_filter_le _ _) s1) s2 s4
 have hb2 : (B6 (bk n L) p.1 e (p.2.st.filter fun y => !(decide (y = e)))) ((p.2.nd.length : Int), p.2.nd.filter fun x => !(decide (x.elem = e))) = some (.inr (bk n (GG L p.1 e), true)) := by
  simp only [B6, e2, Dw, cond_false, hbk]
  simp only at hh
  rw [hh]
  simp only [Option.bind_some]
  cases hl : Jx (Fj e p.2) with
  | true =>
   simp only [Bool.not_true, cond_false, Option.bind_some, Option.map_some]
   have : GG L p.1 e = freeM L p.1 e := List.filter_eq_self.2 fun q hq => by
    obtain ⟨q0, h0, rfl⟩ := List.mem_map.1 hq
    by_cases c : q0.1 = p.1
    .have : q0 = p := by
      have a1 := CF (fun b => b) hI.keys h0
      have a2 := CF (fun b => b) hI.keys hp
      rw [c, a2] at a1
      exact Prod.ext c (Option.some.inj a1).symm
     subst this
     simp [hl]
    simp [c]
   rw [this, <- hbk]
  | false =>
   simp only [Bool.not_false, cond_true, Option.bind_some, Option.map_some]
   have hf : GG L p.1 e = (freeM L p.1 e).filter fun q => !(decide (q.1 = p.1)) := by
    unfold GG
    refine List.filter_congr fun q hq => ?_
    obtain ⟨q0, h0, rfl⟩ := List.mem_map.1 hq
    by_cases c : q0.1 = p.1
    .have : q0 = p := by
      have a1 := CF (fun b => b) hI.keys h0
      have a2 := CF (fun b => b) hI.keys hp
      rw [c, a2] at a1
      exact Prod.ext c (Option.some.inj a1).symm
     subst this
     simp [hl]
    simp [c]
   rw [hf]
   refine congrArg some (congrArg Sum.inr (congrArg (·, true) ?_))
   have d1 := Kw (·.st) p.1 _ hk2
   have d2 := Kw (·.zn) p.1 _ hk2
   have d3 := Kw (·.nd) p.1 _ hk2
   have d4 := Kw (·.gd) p.1 _ hk2
   have h1 := congrArg AS.steps hbk
   have h2 := congrArg AS.zone hbk
   have h3 := congrArg AS.needs hbk
   have h4 := congrArg AS.guards hbk
   simp only at h1 h2 h3 h4
   rw [h1, h2, h3, h4]
   simp only [bk] at *
   rw [d1, d2, d3, d4]
 exact B8 hb2
structure WB (M L : List (Int × Bn)) : Prop where
 keys : (M.map (·.1)).Nodup
 len : M.length <= L.length
 ofs : ∀ q ∈ M, ∃ p ∈ L, q.1 = p.1 /\ (∀ x ∈ q.2.st, x ∈ p.2.st) /\ q.2.zn = p.2.zn /\ (∀ x ∈ q.2.nd, x ∈ p.2.nd) /\ q.2.gd = p.2.gd /\ q.2.st.length <= p.2.st.length /\ q.2.nd.length <= p.2.nd.length /\ 0 < q.2.st.length + q.2.zn.length + q.2.gd.length
theorem WB.inv {M : List (Int × Bn)} (h : WB M L) (hI : CO L) : CO M := by
 have nn : ∀ {q p : Int × Bn}, (∀ x ∈ q.2.nd, x ∈ p.2.nd) -> q.2.gd = p.2.gd -> ∀ x ∈ q.2.nd ++ q.2.gd, x ∈ p.2.nd ++ p.2.gd := fun h1 h2 x hx => by
  rcases List.mem_append.1 hx with hx | hx
  .exact List.mem_append.2 (.inl (h1 x hx))
  exact List.mem_append.2 (.inr (h2 ▸ hx))
 refine ⟨h.keys, fun q hq => ?_, Nat.le_trans h.len hI.len, fun q hq => ?_, fun q hq => ?_, fun q hq q' hq' e h1 h2 => ?_, fun q hq q' hq' e h1 h2 => ?_, fun q hq q' hq' x hx y hy he => ?_, fun q hq x hx => ?_⟩
 .obtain ⟨p, hp, k1, -⟩ := h.ofs q hq; rw [k1]; exact hI.pos p hp
 .obtain ⟨p, hp, k1, k2, k3, k4, k5, k6, k7, k8⟩ := h.ofs q hq
  obtain ⟨⟨s1, s2⟩, s3, s4⟩ := hI.small p hp
  rw [k3, k5]; exact ⟨⟨by omega, s2⟩, by omega, s4⟩
 .obtain ⟨p, hp, k1, k2, k3, k4, k5, k6, k7, k8⟩ := h.ofs q hq; exact k8
 .obtain ⟨p, hp, k1, k2, -⟩ := h.ofs q hq
  obtain ⟨p', hp', k1', k2', -⟩ := h.ofs q' hq'
  rw [k1, k1']; exact hI.apart p hp p' hp' e (k2 e h1) (k2' e h2)
 .obtain ⟨p, hp, k1, k2, -⟩ := h.ofs q hq
  obtain ⟨p', hp', k1', k2', k3', -⟩ := h.ofs q' hq'
  rw [k3'] at h2; exact hI.zone p hp p' hp' e (k2 e h1) h2
 .obtain ⟨p, hp, k1, k2, k3, k4, k5, -⟩ := h.ofs q hq
  obtain ⟨p', hp', k1', k2', k3', k4', k5', -⟩ := h.ofs q' hq'
  exact hI.agree p hp p' hp' x (nn k4 k5 x hx) y (nn k4' k5' y hy) he
 obtain ⟨p, hp, k1, k2, k3, k4, k5, -⟩ := h.ofs q hq
 exact hI.posn p hp x (nn k4 k5 x hx)
theorem QV {o e : Int} {q : Int × Bn} : q ∈ GG L o e ↔ (q ∈ L /\ q.1 ≠ o) \/ (q.1 = o /\ Jx q.2 = true /\ ∃ b, (o, b) ∈ L /\ q.2 = Fj e b) := by
 unfold GG freeM
 rw [List.mem_filter, List.mem_map]
 constructor
 .rintro ⟨⟨p, hp, rfl⟩, h⟩
  by_cases c : p.1 = o
  .simp only [c, if_true, decide_true, Bool.not_true, Bool.false_or] at h ⊢
   exact .inr ⟨trivial, h, p.2, by rw [<- c]; exact hp, rfl⟩
  simp only [c, if_false]
  exact .inl ⟨hp, c⟩
 rintro (⟨h1, h2⟩ | ⟨h1, h2, b, h3, h4⟩)
 .exact ⟨⟨q, h1, by simp [h2]⟩, by simp [h2]⟩
 refine ⟨⟨(o, b), h3, ?_⟩, by simp [h2]⟩
 simp only [if_true]
 exact Prod.ext h1.symm h4.symm
theorem VB (hI : CO L) (o e : Int) : WB (GG L o e) L := by
 refine ⟨?_, ?_, fun q hq => ?_⟩
 .have := hI.keys
  rw [<- PO (L := L) o e] at this
  exact List.Sublist.nodup (List.Sublist.map _ List.filter_sublist) this
 .refine Nat.le_trans (List.length_filter_le _ _) ?_
  unfold freeM; simp
 rcases QV.1 hq with ⟨h1, -⟩ | ⟨h1, h2, b, h3, h4⟩
 .exact ⟨q, h1, rfl, fun _ h => h, rfl, fun _ h => h, rfl, Nat.le_refl _, Nat.le_refl _, hI.holds q h1⟩
 refine ⟨(o, b), h3, h1, ?_⟩
 unfold Jx at h2
 rw [h4] at h2 ⊢
 exact ⟨fun x hx => (List.mem_filter.1 hx).1, rfl, fun x hx => (List.mem_filter.1 hx).1, rfl, List.length_filter_le _ _, List.length_filter_le _ _, of_decide_eq_true h2⟩
end Go.E
/- Plain Lean: whatever is taken, freed and dropped, what is locked is locked for one alone (LockApart). No condition. -/
namespace Go.E
open Go
structure Ws (l : List AV) (held : List Bool) (left : List (List Int)) (L : List (Int × Bn)) : Prop where
 inv : CO L
 once : ∀ p ∈ L, p.2.st.Nodup
 hl : held.length = l.length
 ll : left.length = l.length
 own : ∀ p ∈ L, ∃ i : Nat, p.1 = (i : Int) /\ i < l.length
 is : ∀ (i : Nat) b, held[i]? = some b -> b = decide ((i : Int) ∈ L.map (·.1))
 no : ∀ (i : Nat) v, left[i]? = some v -> (i : Int) ∉ L.map (·.1) -> v = []
 at_ : ∀ (i : Nat) v r b, left[i]? = some v -> l[i]? = some r -> ((i : Int), b) ∈ L -> v = b.st /\ b.zn = r.zone /\ b.gd = r.guards /\ ∀ x ∈ r.needs, x.elem ∈ b.st -> x ∈ b.nd
variable {n : Int} {l : List AV} {held : List Bool} {left : List (List Int)} {L : List (Int × Bn)}
theorem WC (hI : CO L) (e : Int) : (Hn L e).length < 1000000 := by
 unfold Hn OO
 rw [(Ch _).length_eq, List.length_map]
 have h3 := List.length_filter_le (fun p : Int × List Int => decide (e ∈ p.2)) (L.map fun p => (p.1, p.2.zn))
 rw [List.length_map] at h3
 have := hI.len
 omega
theorem VC {i : Int} {b : Bn} (hI : CO L) {p : Int × Bn} (hp : p ∈ L) (hb : (i, b) ∈ L) (h : p.1 = i) : p.2 = b := by
 have a1 := CF (fun b => b) hI.keys hp
 have a2 := CF (fun b => b) hI.keys hb
 simp only at a2
 rw [h, a2] at a1
 exact (Option.some.inj a1).symm
theorem Ws.start (l : List AV) : Ws l (List.replicate l.length false) (List.replicate l.length []) [] := by
 refine ⟨⟨by simp, by simp, by simp, by simp, by simp, by simp, by simp, by simp, by simp⟩, by simp, by simp, by simp, by simp, fun i b hb => ?_, fun i v hv _ => ?_, fun i v r b _ _ hb => by cases hb⟩
 .rw [List.getElem?_replicate] at hb
  split at hb <;> cases hb
  rfl
 rw [List.getElem?_replicate] at hv
 split at hv <;> cases hv
 rfl
end Go.E
/- Plain Lean: the law LockApart. No condition. -/
namespace Go.E
open Go
theorem YL {α β : Type} {o : Option α} {a : α} {f : α -> Option β} {r : β} (h : o = some a) (k : f a = some r) : o.bind f = some r := by rw [h]; exact k
end Go.E
/- Plain Lean: the document's book beside a row of owners: what is asked of it. No condition. -/
namespace Go.E
open Go
def Li (h : Ae) : Int × List Int × List AN × List AN := (h.owner, h.steps, h.needs, h.guard)
def Lj (p : Int × Bn) : Int × List Int × List AN × List AN := (p.1, p.2.st, p.2.nd, p.2.gd)
structure Co (L : List (Int × Bn)) (M : List Ae) : Prop where
 perm : (M.map Li).Perm (L.map Lj)
 rise : M.Pairwise fun a b => a.owner < b.owner
 zone : ∀ h ∈ M, ∀ p ∈ L, p.1 = h.owner -> ∀ e, e ∈ h.zone ↔ e ∈ p.2.zn
 zlen : ∀ h ∈ M, h.zone.length <= 1000
variable {n : Int} {L : List (Int × Bn)} {M : List Ae}
theorem Co.row (hD : Co L M) {h : Ae} (hh : h ∈ M) : ∃ p ∈ L, p.1 = h.owner /\ p.2.st = h.steps /\ p.2.nd = h.needs /\ p.2.gd = h.guard := by
 have : Li h ∈ L.map Lj := hD.perm.mem_iff.1 (List.mem_map_of_mem hh)
 obtain ⟨p, hp, he⟩ := List.mem_map.1 this
 simp only [Li, Lj, Prod.mk.injEq] at he
 exact ⟨p, hp, he.1, he.2.1, he.2.2.1, he.2.2.2⟩
theorem Co.doc (hD : Co L M) {p : Int × Bn} (hp : p ∈ L) : ∃ h ∈ M, p.1 = h.owner /\ p.2.st = h.steps /\ p.2.nd = h.needs /\ p.2.gd = h.guard := by
 have : Lj p ∈ M.map Li := hD.perm.mem_iff.2 (List.mem_map_of_mem hp)
 obtain ⟨h, hh, he⟩ := List.mem_map.1 this
 simp only [Li, Lj, Prod.mk.injEq] at he
 exact ⟨h, hh, he.1.symm, he.2.1.symm, he.2.2.1.symm, he.2.2.2.symm⟩
theorem Co.len (hD : Co L M) : M.length = L.length := by
 have := hD.perm.length_eq
 simpa using this
theorem Co.small (hD : Co L M) (hI : CO L) {h : Ae} (hh : h ∈ M) : h.steps.length <= 1000 /\ h.needs.length <= 1000 /\ h.guard.length <= 1000 := by
 obtain ⟨p, hp, h1, h2, h3, h4⟩ := hD.row hh
 obtain ⟨⟨s1, s2⟩, s3, s4⟩ := hI.small p hp
 rw [<- h2, <- h3, <- h4]
 exact ⟨s1, s3, s4⟩
theorem Co.keys (hD : Co L M) (x : Int) : x ∈ M.map (·.owner) ↔ x ∈ L.map (·.1) := by
 constructor
 .intro h
  obtain ⟨a, ha, rfl⟩ := List.mem_map.1 h
  obtain ⟨p, hp, h1, -⟩ := hD.row ha
  exact List.mem_map.2 ⟨p, hp, h1⟩
 intro h
 obtain ⟨p, hp, rfl⟩ := List.mem_map.1 h
 obtain ⟨a, ha, h1, -⟩ := hD.doc hp
 exact List.mem_map.2 ⟨a, ha, h1.symm⟩
theorem Co.uniq (hD : Co L M) {i j : Nat} {a b : Ae} (ha : M[i]? = some a) (hb : M[j]? = some b) (h : a.owner = b.owner) : i = j := by
 have hp := List.pairwise_iff_getElem.1 hD.rise
 obtain ⟨hi, rfl⟩ := List.getElem?_eq_some_iff.1 ha
 obtain ⟨hj, rfl⟩ := List.getElem?_eq_some_iff.1 hb
 rcases Nat.lt_trichotomy i j with c | c | c
 .have := hp i j hi hj c; omega
 .exact c
 have := hp j i hj hi c; omega
theorem UK (hl : M.length <= 1000) (hD : Co L M) (o : Int) : ∃ t, Dp ⟨n, M⟩ o = some t /\ ((t = -1 /\ o ∉ L.map (·.1)) \/ ∃ (i : Nat) (h : Ae), t = (i : Int) /\ M[i]? = some h /\ h.owner = o /\ o ∈ L.map (·.1)) := by
 unfold Dp
 obtain ⟨t, h1, h2⟩ := HO (l := M) (f := fun h => h.owner == o) (by omega) (step := D9 ⟨n, M⟩ o) (by simp [D9]) (fun i a ha => by
  have := Cl ha
  simp only [D9, Cc ha, cond_true, A0, ha, Option.bind_some, As (show i < 1000000000 by omega)]
  cases hb : (a.owner == o) <;> simp)
 refine ⟨t, h1, ?_⟩
 rcases h2 with ⟨rfl, h2⟩ | ⟨a, h0, h2, h3⟩
 .refine .inl ⟨rfl, fun hm => ?_⟩
  obtain ⟨a, ha, he⟩ := List.mem_map.1 ((hD.keys o).2 hm)
  have := List.find?_eq_none.1 h2 a ha
  simp [he] at this
 obtain ⟨i, rfl⟩ := Int.eq_ofNat_of_zero_le h0
 have he := List.find?_some h2
 simp only [beq_iff_eq] at he
 exact .inr ⟨i, a, rfl, h3, he, (hD.keys o).1 (List.mem_map.2 ⟨a, List.mem_of_find?_eq_some h2, he⟩)⟩
theorem Px (hI : CO L) (hD : Co L M) (e : Int) : CX ⟨n, M⟩ e = some (Ho L e) := by
 have hl := hD.len
 have hl2 := hI.len
 have key : CX ⟨n, M⟩ e = some (((M.find? fun h => decide (e ∈ h.steps)).map (·.owner)).getD (-1)) := by
  unfold CX
  refine M8 (γ := Unit) M (fun i _ => (i : Int)) (fun _ _ r => some (((r.find? fun h => decide (e ∈ h.steps)).map (·.owner)).getD (-1))) (fun _ => by simp [ED]) (fun i _ a r ha hi => ?_) ()
  have hs := (hD.small hI (List.mem_of_getElem? ha)).1
  simp only [ED, Cc ha, cond_true, A0, ha, Option.bind_some, Lk a.steps (by omega), As (show i < 1000000000 by omega)]
  by_cases c : e ∈ a.steps
  .left; simp [c]
  right; exact ⟨(), by simp [c], by simp [c]⟩
 rw [key]
 refine congrArg some ?_
 cases hf : M.find? fun h => decide (e ∈ h.steps) with
 | none =>
  have : ∀ p ∈ L, e ∉ p.2.st := fun p hp he => by
   obtain ⟨h, hh, h1, h2, -⟩ := hD.doc hp
   have := List.find?_eq_none.1 hf h hh
   rw [h2] at he
   simp [he] at this
  rw [TW this]; rfl
 | some h =>
  obtain ⟨p, hp, h1, h2, -⟩ := hD.row (List.mem_of_find?_eq_some hf)
  have he := List.find?_some hf
  simp only [decide_eq_true_eq] at he
  rw [TX hI hp (h2 ▸ he)]
  exact h1.symm
theorem TY (hI : CO L) (hD : Co L M) (e : Int) : DR ⟨n, M⟩ e = some (Hn L e) := by
 have hl := hD.len
 have hl2 := hI.len
 have key : ∀ i, i <= M.length -> AY (Ct ⟨n, M⟩ e) (0, ([] : List Int)) = AY (Ct ⟨n, M⟩ e) ((i : Int), ((M.take i).filter fun h => decide (e ∈ h.zone)).map (·.owner)) := by
  intro i
  induction i with
  | zero => intro _; rfl
  | succ i ih =>
   intro hi
   have hlt : i < M.length := by omega
   have ha : M[i]? = some M[i] := List.getElem?_eq_getElem hlt
   rw [ih (by omega)]
   refine CJ ?_
   have hb := List.length_filter_le (fun h : Ae => decide (e ∈ h.zone)) (M.take i)
   rw [List.length_take] at hb
   have hz := hD.zlen _ (List.getElem_mem hlt)
   rw [List.take_add_one, ha, Option.toList_some, List.filter_append, List.map_append]
   simp only [Ct, Cc ha, cond_true, A0, ha, Option.bind_some, Lk _ (show M[i].zone.length < 1000000 by omega)]
   by_cases c : e ∈ M[i].zone
   .rw [List.filter_cons_of_pos (by simp [c])]
    simp only [decide_eq_true c, cond_true]
    rw [BY (by simp; omega)]
    simp only [Option.bind_some, List.filter_nil, List.map_cons, List.map_nil, As (show i < 1000000000 by omega)]
   rw [List.filter_cons_of_neg (by simp [c])]
   simp only [decide_eq_false c, cond_false, Option.bind_some, List.filter_nil, List.map_nil, List.append_nil, As (show i < 1000000000 by omega)]
 have h0 := key M.length (Nat.le_refl _)
 rw [List.take_length] at h0
 unfold DR
 rw [h0, B8 (b := (M.filter fun h => decide (e ∈ h.zone)).map (·.owner)) (by simp only [Ct, Dw, cond_false])]
 refine congrArg some (Ll ?_ ?_ fun x => ?_)
 .rw [List.pairwise_map]
  exact hD.rise.sublist List.filter_sublist
 .refine M9 ?_
  have : ((L.filter fun p => decide (e ∈ p.2.zn)).map (·.1)).Nodup := List.Sublist.nodup (List.Sublist.map _ List.filter_sublist) hI.keys
  rw [List.filter_map, List.map_map]
  exact this
 have hm : x ∈ Hn L e ↔ ∃ p ∈ L, p.1 = x /\ e ∈ p.2.zn := by
  unfold Hn OO
  rw [(Ch _).mem_iff]
  constructor
  .intro h
   obtain ⟨a, ha, rfl⟩ := List.mem_map.1 h
   obtain ⟨h1, h2⟩ := List.mem_filter.1 ha
   obtain ⟨p, hp, rfl⟩ := List.mem_map.1 h1
   exact ⟨p, hp, rfl, by simpa using h2⟩
  rintro ⟨p, hp, rfl, he⟩
  exact List.mem_map.2 ⟨(p.1, p.2.zn), List.mem_filter.2 ⟨List.mem_map.2 ⟨p, hp, rfl⟩, by simpa using he⟩, rfl⟩
 rw [hm]
 constructor
 .intro h
  obtain ⟨a, ha, rfl⟩ := List.mem_map.1 h
  obtain ⟨h1, h2⟩ := List.mem_filter.1 ha
  obtain ⟨p, hp, h3, -⟩ := hD.row h1
  exact ⟨p, hp, h3, (hD.zone a h1 p hp h3 e).1 (by simpa using h2)⟩
 rintro ⟨p, hp, rfl, he⟩
 obtain ⟨a, ha, h3, -⟩ := hD.doc hp
 exact List.mem_map.2 ⟨a, List.mem_filter.2 ⟨ha, by simpa using (hD.zone a ha p hp h3 e).2 he⟩, h3.symm⟩
theorem SB (hI : CO L) (hD : Co L M) : Cm ⟨n, M⟩ = some (Dl (L.map (·.1))) := by
 have hl := hD.len
 have hl2 := hI.len
 have key : ∀ i, i <= M.length -> AY (Cf ⟨n, M⟩) (0, ([] : List Int)) = AY (Cf ⟨n, M⟩) ((i : Int), (M.take i).map (·.owner)) := by
  intro i
  induction i with
  | zero => intro _; rfl
  | succ i ih =>
   intro hi
   have hlt : i < M.length := by omega
   have ha : M[i]? = some M[i] := List.getElem?_eq_getElem hlt
   rw [ih (by omega)]
   refine CJ ?_
   rw [EH ha]
   simp only [Cf, Cc ha, cond_true, A0, ha, Option.bind_some]
   rw [BY (by simp; omega)]
   simp only [Option.bind_some, As (show i < 1000000000 by omega)]
 have h0 := key M.length (Nat.le_refl _)
 rw [List.take_length] at h0
 unfold Cm
 rw [h0, B8 (b := M.map (·.owner)) (by simp only [Cf, Dw, cond_false])]
 refine congrArg some (Ll ?_ (M9 hI.keys) fun x => ?_)
 .rw [List.pairwise_map]; exact hD.rise
 rw [hD.keys, (Ch _).mem_iff]
theorem VD (hI : CO L) (hD : Co L M) (e : Int) : Di ⟨n, M⟩ e = some (Fa L e, UL L e) := by
 have hl := hD.len
 have hl2 := hI.len
 let f : Ae -> Option Int := fun h => CR (h.needs ++ h.guard) e
 have key : ∀ i, i <= M.length -> AY (Cw ⟨n, M⟩ e) (0, 0, 0) = AY (Cw ⟨n, M⟩ e) (((M.take i).filterMap f).getLastD 0, (((M.take i).filterMap f).length : Int), (i : Int)) := by
  intro i
  induction i with
  | zero => intro _; rfl
  | succ i ih =>
   intro hi
   have hlt : i < M.length := by omega
   have ha : M[i]? = some M[i] := List.getElem?_eq_getElem hlt
   rw [ih (by omega)]
   refine CJ ?_
   obtain ⟨s1, s2, s3⟩ := hD.small hI (List.getElem_mem hlt)
   have hb := List.length_filterMap_le f (M.take i)
   rw [List.length_take] at hb
   rw [List.take_add_one, ha, Option.toList_some, List.filterMap_append]
   simp only [Cw, Cc ha, cond_true, A0, ha, Option.bind_some]
   rw [BY (by simp; omega)]
   simp only [Option.bind_some, List.nil_append]
   rw [BY (by omega)]
   simp only [Option.bind_some]
   rw [QW (M[i].needs ++ M[i].guard) e (by simp; omega) (no := (((M.take i).filterMap f).getLastD 0, (((M.take i).filterMap f).length : Int))) (yes := fun q => (q, (((M.take i).filterMap f).length : Int) + 1)) (by simp only [EK, Dw, cond_false]) (fun j x hj => by
    have := Cl hj
    simp only [List.length_append] at this
    simp only [EK, Cc hj, cond_true, A0, hj, Option.bind_some, As (show j < 1000000000 by omega), DW (n := (((M.take i).filterMap f).length : Int) + 1) (by omega) (by omega)])]
   have hfd : f M[i] = CR (M[i].needs ++ M[i].guard) e := rfl
   cases hf : CR (M[i].needs ++ M[i].guard) e with
   | none =>
    rw [hf] at hfd
    simp only [List.filterMap_cons, hfd, List.filterMap_nil, List.append_nil, Option.bind_some, As (show i < 1000000000 by omega)]
   | some q =>
    rw [hf] at hfd
    simp only [List.filterMap_cons, hfd, List.filterMap_nil, Option.bind_some, As (show i < 1000000000 by omega)]
    simp
 have h0 := key M.length (Nat.le_refl _)
 rw [List.take_length] at h0
 unfold Di
 rw [h0, B8 (b := ((M.filterMap f).getLastD 0, ((M.filterMap f).length : Int))) (by simp only [Cw, Dw, cond_false])]
 have hp : (M.filterMap f).Perm (L.filterMap fun p => CR (p.2.nd ++ p.2.gd) e) := by
  have := hD.perm.filterMap fun c => CR (c.2.2.1 ++ c.2.2.2) e
  rw [List.filterMap_map, List.filterMap_map] at this
  exact this
 refine congrArg some (Prod.ext ?_ ?_)
 .show (M.filterMap f).getLastD 0 = Fa L e
  unfold Fa
  have hall : ∀ v ∈ L.filterMap fun p => CR (p.2.nd ++ p.2.gd) e, ∀ u ∈ L.filterMap fun p => CR (p.2.nd ++ p.2.gd) e, v = u := fun v hv u hu => by
   obtain ⟨p, hp, h1⟩ := List.mem_filterMap.1 hv
   obtain ⟨q, hq, h2⟩ := List.mem_filterMap.1 hu
   obtain ⟨a, ha, a1, a2⟩ := II h1
   obtain ⟨b, hb, b1, b2⟩ := II h2
   rw [<- a2, <- b2]
   exact hI.agree p hp q hq a ha b hb (a1.trans b1.symm)
  generalize (L.filterMap fun p => CR (p.2.nd ++ p.2.gd) e) = B at hp hall
  generalize M.filterMap f = A at hp
  cases B with
  | nil => rw [hp.eq_nil]; rfl
  | cons v B =>
   have hne : A ≠ [] := fun c => by rw [c] at hp; have := hp.length_eq; simp at this
   rw [List.getLastD_eq_getLast?, List.getLast?_eq_some_getLast hne]
   simp only [Option.getD_some, List.headD_cons]
   exact hall _ (hp.mem_iff.1 (List.getLast_mem hne)) v (by simp)
 show ((M.filterMap f).length : Int) = UL L e
 unfold UL
 rw [hp.length_eq]
end Go.E
/- Plain Lean: the document's book beside a row of owners: what is done to it. No condition. -/
namespace Go.E
open Go
variable {n : Int} {L : List (Int × Bn)} {M : List Ae}
theorem WD (b : Ap) (l : List Int) (hl : l.length <= 1000000) : Dr b l = some (!(l.any fun e => decide (e < 0) || decide (b.n <= e))) := by
 unfold Dr
 rw [Gt (l := l) (fun e => decide (e < 0) || decide (b.n <= e)) false (some true) (by simp only [FC, Dw, cond_false]; rfl) (fun i a ha => by
  have := Cl ha
  simp only [FC, Cc ha, cond_true, A0, ha, Option.bind_some, As (show i < 1000000000 by omega)]
  cases decide (a < 0) <;> rfl)]
 cases l.any fun e => decide (e < 0) || decide (b.n <= e) <;> rfl
theorem Py {l : List Int} {n : Int} : (l.any fun e => decide (e < 0) || decide (n <= e)) = false ↔ ∀ e ∈ l, 0 <= e /\ e < n := by
 rw [List.any_eq_false]
 simp only [Bool.or_eq_true, decide_eq_true_eq, not_or]
 exact ⟨fun h e he => by have := h e he; omega, fun h e he => by have := h e he; omega⟩
theorem Pz {α : Type} {l : List α} {k : Nat} (h : k <= l.length) : GR l 0 (k : Int) = some (l.take k) := by
 unfold GR Gy
 rw [if_pos (by omega)]
 simp
theorem TZ {α : Type} {l : List α} {k : Nat} (h : k <= l.length) : GR l (k : Int) (l.length : Int) = some (l.drop k) := by
 unfold GR Gy
 rw [if_pos (by omega)]
 simp
theorem UM {l : List Int} (h : ∀ (i : Nat) a, l[i]? = some a -> a ∉ l.take i) : l.Nodup := by
 rw [List.nodup_iff_pairwise_ne, List.pairwise_iff_getElem]
 intro i j hi hj hij he
 refine h j l[j] (List.getElem?_eq_getElem hj) ?_
 rw [<- he]
 exact List.mem_iff_getElem.2 ⟨i, by rw [List.length_take]; omega, by rw [List.getElem_take]⟩
theorem JR {p : Prop} (h : ¬ p) : (false = true) ↔ p := ⟨fun e => Bool.noConfusion e, fun e => absurd e h⟩
theorem XP {p : Prop} (h : p) : (true = true) ↔ p := ⟨fun _ => h, fun _ => rfl⟩
theorem YM (r : AV) (hr : KM r) : ∃ b, EL ⟨n, M⟩ r = some b /\ (b = true ↔ Ca n r) := by
 have q1 := hr.ls; have q2 := hr.ln; have q3 := hr.lg; have q4 := hr.lz
 have el := NA r (by omega)
 unfold EL
 simp only [el, Option.bind_some]
 by_cases h0 : r.steps.length = 0
 .refine ⟨false, ?_, JR fun h => absurd h.one (by rw [h0]; decide)⟩
  have : (((r.steps.map (·.elem)).length : Int) == 0) = true := by rw [List.length_map, h0]; rfl
  simp only [this, cond_true, Option.bind_some]
 have h0' : (((r.steps.map (·.elem)).length : Int) == 0) = false := beq_eq_false_iff_ne.2 (by rw [List.length_map]; omega)
 simp only [h0', cond_false, WD _ (r.steps.map (·.elem)) (by simp; omega), WD _ r.zone (by omega), Option.bind_some, Bool.not_not]
 cases h1 : (r.steps.map (·.elem)).any fun e => decide (e < 0) || decide (n <= e) with
 | true =>
  refine ⟨false, by simp only [cond_true, Option.bind_some], JR fun h => ?_⟩
  rw [Py.2 fun e he => ?_] at h1
  .cases h1
  obtain ⟨s, hs, rfl⟩ := List.mem_map.1 he
  exact h.step s hs
 | false =>
  cases h2 : r.zone.any fun e => decide (e < 0) || decide (n <= e) with
  | true =>
   refine ⟨false, by simp only [cond_false, cond_true, Option.bind_some], JR fun h => ?_⟩
   rw [Py.2 fun e he => ⟨(h.zone e he).1, (h.zone e he).2.1⟩] at h2
   cases h2
  | false =>
   simp only [cond_false, Option.bind_some]
   rw [Py] at h1 h2
   have c1 : A5 ([] : List AN) r.needs = some r.needs := by rw [BY (by simp; omega)]; rfl
   have c2 : A5 r.needs r.guards = some (r.needs ++ r.guards) := BY (by omega)
   refine Eo (l := r.steps.map (·.elem)) (fun i e => e ∉ (r.steps.map (·.elem)).take i /\ e ∉ r.zone) (fun good => ?_) (fun i e he hg => ?_)
   .have hl2 : ∃ b, AY (C0 ⟨n, M⟩ (r.needs ++ r.guards)) 0 = some b /\ (b = true ↔ Ca n r) := by
     refine Eo (l := r.needs ++ r.guards) (fun i x => ((0 <= x.elem /\ x.elem < n) /\ (x.pos = 1 \/ x.pos = 2)) /\ ∀ (k : Nat) y, k < i -> (r.needs ++ r.guards)[k]? = some y -> y.elem = x.elem -> y.pos = x.pos) (fun g2 => ?_) (fun i x hx hg => ?_)
     .refine ⟨true, by simp only [C0, Dw, cond_false], XP ⟨by omega, q1, q2, q3, q4, fun s hs => h1 _ (List.mem_map_of_mem hs), UM fun i a ha => (good i a ha).1, fun e he => ⟨(h2 e he).1, (h2 e he).2, fun hm => ?_⟩, fun x hx => ?_, fun x hx y hy hxy => ?_⟩⟩
      .obtain ⟨i, hi⟩ := List.mem_iff_getElem?.1 hm
       exact (good i e hi).2 he
      .obtain ⟨i, hi⟩ := List.mem_iff_getElem?.1 hx
       exact (g2 i x hi).1
      obtain ⟨i, hi⟩ := List.mem_iff_getElem?.1 hx
      obtain ⟨j, hj⟩ := List.mem_iff_getElem?.1 hy
      rcases Nat.lt_trichotomy i j with c | c | c
      .exact (g2 j y hj).2 i x c hi hxy
      .subst c; rw [hi] at hj; cases hj; rfl
      exact ((g2 i x hi).2 j y c hj hxy.symm).symm
     have hil := Cl hx
     have hmem := List.mem_of_getElem? hx
     simp only [List.length_append] at hil
     have e1 := WD ⟨n, M⟩ [x.elem] (by simp)
     simp only [List.any_cons, List.any_nil, Bool.or_false] at e1
     by_cases c : (0 <= x.elem /\ x.elem < n) /\ (x.pos = 1 \/ x.pos = 2)
     .have e2 : (decide (x.elem < 0) || decide (n <= x.elem)) = false := by simp; omega
      have e3 : (bif (x.pos != 1) then some (x.pos != 2) else some false : Option Bool) = some false := by
       rcases c.2 with c | c <;> rw [c] <;> rfl
      have hl3 : ∃ t, AY (Dg (r.needs ++ r.guards) (i : Int)) 0 = some t /\ ((t = .inl ((i + 1 : Nat) : Int) /\ ∀ (k : Nat) y, k < i -> (r.needs ++ r.guards)[k]? = some y -> y.elem = x.elem -> y.pos = x.pos) \/ (t = .inr false /\ ¬ Lm (r.needs ++ r.guards))) := by
       have hti : ((r.needs ++ r.guards).take i).length = i := by rw [List.length_take, List.length_append]; omega
       refine Eo (l := (r.needs ++ r.guards).take i) (fun k y => y.elem = x.elem -> y.pos = x.pos) (fun g3 => ?_) (fun k y hy _ => ?_)
       .rw [hti]
        refine ⟨_, by simp only [Dg, decide_eq_false (show ¬ ((i : Int) < (i : Int)) by omega), cond_false, As (show i < 1000000000 by omega)], .inl ⟨rfl, fun k y hk hy => g3 k y ?_⟩⟩
        rw [List.getElem?_take, if_pos hk]; exact hy
       have hk := Cl hy
       rw [hti] at hk
       rw [List.getElem?_take, if_pos hk] at hy
       simp only [Dg, decide_eq_true (show (k : Int) < (i : Int) by omega), cond_true, A0, hy, hx, Option.bind_some, As (show k < 1000000000 by omega)]
       by_cases d1 : y.elem = x.elem
       .by_cases d2 : y.pos = x.pos
        .exact .inr ⟨by simp only [beq_iff_eq.2 d1, (show (y.pos != x.pos) = false by rw [d2]; exact bne_self_eq_false _), cond_true, cond_false, Option.bind_some], fun _ => d2⟩
        exact .inl ⟨.inr false, by simp only [beq_iff_eq.2 d1, bne_iff_ne.2 d2, cond_true, Option.bind_some], .inr ⟨rfl, fun hc => d2 (hc y (List.mem_of_getElem? hy) x hmem d1)⟩⟩
       exact .inr ⟨by simp only [beq_eq_false_iff_ne.2 d1, cond_false, Option.bind_some], fun h => absurd h d1⟩
      obtain ⟨t, t1, t2⟩ := hl3
      simp only [C0, Cc hx, cond_true, A0, hx, Option.bind_some, e1, e2, Bool.not_false, Bool.not_true, cond_false, e3, t1]
      rcases t2 with ⟨rfl, t2⟩ | ⟨rfl, t2⟩
      .exact .inr ⟨rfl, c, t2⟩
      exact .inl ⟨false, rfl, JR fun h => t2 h.cons⟩
     have e3 : ((bif (!(!(decide (x.elem < 0) || decide (n <= x.elem)))) then some true else bif (x.pos != 1) then some (x.pos != 2) else some false : Option Bool)) = some true := by
      by_cases d : 0 <= x.elem /\ x.elem < n
      .have e2 : (decide (x.elem < 0) || decide (n <= x.elem)) = false := by simp; omega
       have d1 : x.pos ≠ 1 := fun h => c ⟨d, .inl h⟩
       have d2 : x.pos ≠ 2 := fun h => c ⟨d, .inr h⟩
       simp only [e2, Bool.not_false, Bool.not_true, cond_false, bne_iff_ne.2 d1, bne_iff_ne.2 d2, cond_true]
      have e2 : (decide (x.elem < 0) || decide (n <= x.elem)) = true := by simp; omega
      simp only [e2, Bool.not_true, Bool.not_false, cond_true]
     refine .inl ⟨false, ?_, JR fun h => c (h.need x hmem)⟩
     simp only [C0, Cc hx, cond_true, A0, hx, Option.bind_some, e1, e3]
    obtain ⟨b, hb, hb2⟩ := hl2
    exact ⟨b, by simp only [EN, Dw, cond_false, c1, c2, Option.bind_some, hb, Option.map_some], hb2⟩
   have hil := Cl he
   rw [List.length_map] at hil
   have s1 := Pz (l := r.steps.map (·.elem)) (k := i) (by rw [List.length_map]; omega)
   have e1 := Lk ((r.steps.map (·.elem)).take i) (by simp; omega) e
   have e2 := Lk r.zone (by omega) e
   simp only [EN, Cc he, cond_true, s1, A0, he, Option.bind_some, e1, e2, As (show i < 1000000000 by omega)]
   by_cases d1 : e ∈ (r.steps.map (·.elem)).take i
   .refine .inl ⟨false, by simp only [decide_eq_true d1, cond_true, Option.bind_some], JR fun h => ?_⟩
    have hnd := h.once
    rw [List.nodup_iff_pairwise_ne, List.pairwise_iff_getElem] at hnd
    obtain ⟨k, hk, hke⟩ := List.mem_iff_getElem.1 d1
    rw [List.length_take] at hk
    rw [List.getElem_take] at hke
    obtain ⟨hi', hie⟩ := List.getElem?_eq_some_iff.1 he
    exact hnd k i (by omega) hi' (by omega) (hke.trans hie.symm)
   by_cases d2 : e ∈ r.zone
   .refine .inl ⟨false, by simp only [decide_eq_false d1, decide_eq_true d2, cond_true, cond_false, Option.bind_some], JR fun h => (h.zone e d2).2.2 (List.mem_of_getElem? he)⟩
   exact .inr ⟨by simp only [decide_eq_false d1, decide_eq_false d2, cond_false, Option.bind_some], d1, d2⟩
open Classical in
noncomputable def Gu (n : Int) (L : List (Int × Bn)) (o : Int) (r : AV) : Int := if o < 0 \/ o ∈ L.map (·.1) \/ ¬ Ca n r then 1 else YN n L r
theorem Wt (hI : CO L) (o : Int) (r : AV) (hr : KM r) : BB (bk n L) o r = some (Gu n L o r) := by
 unfold Gu
 by_cases h0 : o < 0
 .rw [if_pos (.inl h0)]
  unfold BB
  simp only [decide_eq_true h0, cond_true, Option.bind_some]
 by_cases hm : o ∈ L.map (·.1)
 .rw [if_pos (.inr (.inl hm))]
  unfold BB
  simp only [decide_eq_false h0, cond_false, Iq hI, decide_eq_true hm, Option.bind_some, cond_true]
 obtain ⟨t, ht, hR⟩ := Ny (bk n L) r hr
 cases t with
 | false =>
  have hP : ¬ Ca n r := fun h => by
   have := SC (bk n L) r h
   rw [ht] at this; cases this
  rw [if_pos (.inr (.inr hP))]
  unfold BB
  simp only [decide_eq_false h0, cond_false, Iq hI, decide_eq_false hm, Option.bind_some, ht, Bool.not_false, cond_true]
 | true =>
  have hP : Ca n r := hR rfl
  rw [if_neg (fun h => h.elim h0 fun h => h.elim hm fun h => h hP)]
  exact PP (bk n L) o r hP (by omega) (by rw [Iq hI, decide_eq_false hm]) (P0 hI) (P1 hI) (fun e => ⟨_, SD hI e⟩)
theorem Yw (hI : CO L) (hD : Co L M) (o : Int) (r : AV) (hr : KM r) : Ej ⟨n, M⟩ o r = some (Gu n L o r) := by
 have q1 := hr.ls; have q2 := hr.ln; have q3 := hr.lg; have q4 := hr.lz
 have hlM : M.length <= 1000 := by have := hD.len; have := hI.len; omega
 have el := NA r (by omega)
 unfold Gu Ej
 by_cases h0 : o < 0
 .rw [if_pos (.inl h0)]
  simp only [decide_eq_true h0, cond_true, Option.bind_some]
 obtain ⟨t, t1, t2⟩ := UK (n := n) hlM hD o
 simp only [decide_eq_false h0, cond_false, t1, Option.bind_some]
 rcases t2 with ⟨rfl, hm⟩ | ⟨i, h, rfl, h1, h2, hm⟩
 .obtain ⟨b, b1, b2⟩ := YM (n := n) (M := M) r hr
  simp only [decide_eq_false (show ¬ (0 : Int) <= -1 by decide), cond_false, b1, Option.bind_some]
  cases b with
  | false =>
   have hP : ¬ Ca n r := fun h => by have := b2.2 h; cases this
   rw [if_pos (.inr (.inr hP))]
   rfl
  | true =>
   have hP : Ca n r := b2.1 rfl
   rw [if_neg (fun h => h.elim h0 fun h => h.elim hm fun h => h hP)]
   simp only [Bool.not_true, cond_false, el, Option.bind_some]
   have c1 : A5 ([] : List AN) r.needs = some r.needs := by rw [BY (by simp; omega)]; rfl
   have c2 : A5 r.needs r.guards = some (r.needs ++ r.guards) := BY (by omega)
   have l3 : AY (DD ⟨n, M⟩ (r.needs ++ r.guards)) 0 = if ((r.needs ++ r.guards).any fun x => (Fa L x.elem != 0) && (Fa L x.elem != x.pos)) = true then some 15 else some 0 :=
    Gt (l := r.needs ++ r.guards) _ 15 (some 0) (by simp only [DD, Dw, cond_false]; rfl) fun i x hx => by
     have := Cl hx
     simp only [List.length_append] at this
     simp only [DD, Cc hx, cond_true, A0, hx, Option.bind_some, VD hI hD, As (show i < 1000000000 by omega)]
     cases (Fa L x.elem != 0) <;> rfl
   have l2 : AY (DE ⟨n, M⟩ r) 0 = if (r.zone.any fun e => decide (0 <= Ho L e)) = true then some 14 else AY (DD ⟨n, M⟩ (r.needs ++ r.guards)) 0 :=
    Gt (l := r.zone) _ 14 _ (by simp only [DE, Dw, cond_false, c1, c2, Option.bind_some]) fun i e he => by
     have := Cl he
     simp only [DE, Cc he, cond_true, A0, he, Option.bind_some, Px hI hD, As (show i < 1000000000 by omega)]
   have l1 : AY (Du ⟨n, M⟩ r (r.steps.map (·.elem))) 0 = if ((r.steps.map (·.elem)).any fun e => decide (0 <= Ho L e) || decide (0 < ((Hn L e).length : Int))) = true then some 14 else AY (DE ⟨n, M⟩ r) 0 :=
    Gt (l := r.steps.map (·.elem)) _ 14 _ (by simp only [Du, Dw, cond_false]) fun i e he => by
     have := Cl he
     rw [List.length_map] at this
     simp only [Du, Cc he, cond_true, A0, he, Option.bind_some, Px hI hD, TY hI hD, As (show i < 1000000000 by omega)]
     cases decide (0 <= Ho L e) <;> rfl
   rw [l1, l2, l3]
   unfold YN HP
   rw [List.any_map, List.any_append]
   simp only [Function.comp_def]
   split
   .rfl
   split
   .rfl
   by_cases c : (r.needs.any fun x => (Fa L x.elem != 0) && (Fa L x.elem != x.pos)) = true
   .simp [c]
   rw [Bool.not_eq_true] at c
   simp only [c, Bool.false_or]
   split <;> rfl
 rw [if_pos (.inr (.inl hm))]
 simp only [decide_eq_true (show (0 : Int) <= (i : Int) by omega), cond_true, Option.bind_some]
theorem XQ (l : List Int) (hl : l.length <= 1000) {β : Type} {step : Int × List Int -> Option (Int × List Int ⊕ β)} {Post : β -> Prop}
  (hs : ∀ (i : Nat) e c, l[i]? = some e -> c.length <= 1000 -> step ((i : Int), c) = (F2 c e).bind fun y => some (.inl (((i + 1 : Nat) : Int), y)))
  (he : ∀ c : List Int, (∀ e, e ∈ c ↔ e ∈ l) -> c.length <= 1000 -> ∃ b, step ((l.length : Int), c) = some (.inr b) /\ Post b) : ∃ b, AY step (0, ([] : List Int)) = some b /\ Post b := by
 refine GF (l := l) (fun i c => (∀ e, e ∈ c ↔ e ∈ l.take i) /\ c.length <= i) (fun c hc => ?_) (fun i e c hi hc => ?_) ⟨by simp, by simp⟩
 .rw [List.take_length] at hc
  exact he c hc.1 (by omega)
 have hil := Cl hi
 refine .inr ⟨Gj e c, ?_, fun x => ?_, ?_⟩
 .rw [hs i e c hi (by omega)]
  unfold F2
  rw [VE c (by omega)]
  rfl
 .rw [QX, hc.1, List.take_add_one, hi]
  simp
  exact or_comm
 have := QY e c; omega
theorem YO (hI : CO L) (hD : Co L M) (hl : L.length < 1000) (o : Int) (r : AV) (hr : KM r) :
  ∃ M', Dj ⟨n, M⟩ o r = some (⟨n, M'⟩, Gu n L o r) /\ Co (if Gu n L o r = 0 then L ++ [(o, FF r)] else L) M' := by
 have q1 := hr.ls; have q2 := hr.ln; have q3 := hr.lg; have q4 := hr.lz
 have hlM : M.length <= 1000 := by have := hD.len; omega
 have el := NA r (by omega)
 have hm := Yw (n := n) hI hD o r hr
 unfold Dj
 simp only [hm, Option.bind_some]
 by_cases hv : Gu n L o r = 0
 .rw [if_pos hv, hv]
  have ho : ¬ o < 0 /\ o ∉ L.map (·.1) := by
   unfold Gu at hv
   split at hv
   .exact absurd hv (by decide)
   rename_i c
   exact ⟨fun h => c (.inl h), fun h => c (.inr (.inl h))⟩
  have c1 : A5 ([] : List AN) r.needs = some r.needs := by rw [BY (by simp; omega)]; rfl
  have c2 : A5 ([] : List AN) r.guards = some r.guards := by rw [BY (by simp; omega)]; rfl
  simp only [bne_self_eq_false, cond_false, el, c1, c2, Option.bind_some]
  obtain ⟨b, hb, z, k, hz, hzl, hk, k1, k2, rfl⟩ := XQ r.zone q4 (step := Dc ⟨n, M⟩ o r (r.steps.map (·.elem)) r.needs r.guards)
   (Post := fun b => ∃ (z : List Int) (k : Nat), (∀ e, e ∈ z ↔ e ∈ r.zone) /\ z.length <= 1000 /\ k <= M.length /\ (∀ (j : Nat) a, j < k -> M[j]? = some a -> a.owner < o) /\ (∀ a, M[k]? = some a -> ¬ a.owner < o) /\ b = (⟨n, M.take k ++ [⟨o, r.steps.map (·.elem), z, r.needs, r.guards⟩] ++ M.drop k⟩, 0))
   (fun i e c hi hc => by have := Cl hi; simp only [Dc, Cc hi, cond_true, A0, hi, Option.bind_some, As (show i < 1000000000 by omega)])
   (fun z hz hzl => by
    have ins : ∀ k : Nat, k <= M.length -> ((GR M 0 (k : Int)).bind fun y311 => (A5 ([] : List Ae) y311).bind fun y313 => (A5 y313 [(⟨o, r.steps.map (·.elem), z, r.needs, r.guards⟩ : Ae)]).bind fun y315 => (GR M (k : Int) (M.length : Int)).bind fun y317 => (A5 y315 y317).bind fun y319 => some ((⟨n, y319⟩ : Ap), (0 : Int))) = some (⟨n, M.take k ++ [⟨o, r.steps.map (·.elem), z, r.needs, r.guards⟩] ++ M.drop k⟩, 0) := fun k hk => by
     rw [Pz hk, TZ hk]
     simp only [Option.bind_some]
     rw [BY (by simp; omega)]
     simp only [Option.bind_some, List.nil_append]
     rw [BY (by simp; omega)]
     simp only [Option.bind_some]
     rw [BY (by simp; omega)]
     rfl
    obtain ⟨b, hb, k, hk, k1, k2, rfl⟩ := Eo (l := M) (step := Cx ⟨n, M⟩ o (r.steps.map (·.elem)) r.needs r.guards ((r.zone.length : Int), z))
     (Post := fun b => ∃ k : Nat, k <= M.length /\ (∀ (j : Nat) a, j < k -> M[j]? = some a -> a.owner < o) /\ (∀ a, M[k]? = some a -> ¬ a.owner < o) /\ b = (⟨n, M.take k ++ [⟨o, r.steps.map (·.elem), z, r.needs, r.guards⟩] ++ M.drop k⟩, 0))
     (fun i a => a.owner < o) (fun good => ⟨_, by simp only [Cx, Dw, cond_false, Option.bind_some, ins M.length (Nat.le_refl _), Option.map_some], M.length, Nat.le_refl _, fun j a _ ha => good j a ha, fun a ha => by simp at ha, rfl⟩)
     (fun i a ha hg => by
      have := Cl ha
      by_cases c : a.owner < o
      .exact .inr ⟨by simp only [Cx, Cc ha, cond_true, A0, ha, Option.bind_some, decide_eq_true c, As (show i < 1000000000 by omega)], c⟩
      exact .inl ⟨_, by simp only [Cx, Cc ha, cond_true, A0, ha, Option.bind_some, decide_eq_false c, cond_false, ins i (by omega), Option.map_some], i, by omega, fun j b hj hb => hg j b hj hb, fun b hb => by rw [ha] at hb; cases hb; exact c, rfl⟩)
    exact ⟨_, by simp only [Dc, Dw, cond_false, hb, Option.map_some], z, k, hz, hzl, hk, k1, k2, rfl⟩)
  refine ⟨_, hb, ?_, ?_, fun h hh p hp hph e => ?_, fun h hh => ?_⟩
  .have p1 : (M.take k ++ ([⟨o, r.steps.map (·.elem), z, r.needs, r.guards⟩] : List Ae) ++ M.drop k).Perm ((⟨o, r.steps.map (·.elem), z, r.needs, r.guards⟩ : Ae) :: M) := by
    rw [List.append_assoc, List.singleton_append]
    refine List.perm_middle.trans ?_
    rw [List.take_append_drop]
   have p2 : (L ++ [(o, FF r)]).Perm ((o, FF r) :: L) := List.perm_append_comm
   refine (p1.map Li).trans (List.Perm.trans ?_ (p2.map Lj).symm)
   exact List.Perm.cons _ hD.perm
  .have hlt : ∀ a ∈ M.take k, a.owner < o := fun a ha => by
    obtain ⟨j, hj, rfl⟩ := List.mem_iff_getElem.1 ha
    rw [List.length_take] at hj
    rw [List.getElem_take]
    exact k1 j _ (by omega) (List.getElem?_eq_getElem _)
   have hgt : ∀ a ∈ M.drop k, o < a.owner := fun a ha => by
    obtain ⟨j, hj, rfl⟩ := List.mem_iff_getElem.1 ha
    rw [List.length_drop] at hj
    rw [List.getElem_drop]
    have hne : (M[k + j]).owner ≠ o := fun h => ho.2 ((hD.keys o).1 (List.mem_map.2 ⟨_, List.getElem_mem _, h⟩))
    have hk0 := k2 _ (List.getElem?_eq_getElem (show k < M.length by omega))
    by_cases hj0 : j = 0
    .subst hj0; simp only [Nat.add_zero] at hne ⊢; omega
    have := List.pairwise_iff_getElem.1 hD.rise k (k + j) (by omega) (by omega) (by omega)
    omega
   rw [List.append_assoc, List.singleton_append, List.pairwise_append]
   refine ⟨hD.rise.sublist (List.take_sublist _ _), ?_, fun a ha b hb' => ?_⟩
   .rw [List.pairwise_cons]
    exact ⟨fun b hb' => hgt b hb', hD.rise.sublist (List.drop_sublist _ _)⟩
   rcases List.mem_cons.1 hb' with rfl | hb'
   .exact hlt a ha
   have := hlt a ha; have := hgt b hb'; omega
  .have hin : h ∈ M \/ h = ⟨o, r.steps.map (·.elem), z, r.needs, r.guards⟩ := by
    rcases List.mem_append.1 hh with hh | hh
    .rcases List.mem_append.1 hh with hh | hh
     .exact .inl (List.mem_of_mem_take hh)
     exact .inr (List.mem_singleton.1 hh)
    exact .inl (List.mem_of_mem_drop hh)
   rcases List.mem_append.1 hp with hp | hp
   .rcases hin with hin | rfl
    .exact hD.zone h hin p hp hph e
    exact absurd (List.mem_map.2 ⟨p, hp, hph⟩) ho.2
   rw [List.mem_singleton] at hp
   subst hp
   rcases hin with hin | rfl
   .exact absurd ((hD.keys o).1 (List.mem_map.2 ⟨h, hin, hph.symm⟩)) ho.2
   exact hz e
  rcases List.mem_append.1 hh with hh | hh
  .rcases List.mem_append.1 hh with hh | hh
   .exact hD.zlen h (List.mem_of_mem_take hh)
   rw [List.mem_singleton] at hh; subst hh; exact hzl
  exact hD.zlen h (List.mem_of_mem_drop hh)
 rw [if_neg hv]
 refine ⟨M, ?_, hD⟩
 have : (Gu n L o r != 0) = true := bne_iff_ne.2 hv
 simp only [this, cond_true]
theorem XR {i : Nat} {h : Ae} (hr : M.Pairwise fun a b => a.owner < b.owner) (hi : M[i]? = some h) : M.take i ++ M.drop (i + 1) = M.filter fun a => !(decide (a.owner = h.owner)) := by
 induction M generalizing i with
 | nil => simp at hi
 | cons a M ih =>
  rw [List.pairwise_cons] at hr
  cases i with
  | zero =>
   simp at hi; subst hi
   rw [List.filter_cons_of_neg (by simp)]
   simp only [List.take_zero, List.nil_append, List.drop_succ_cons, List.drop_zero, Nat.zero_add]
   symm
   exact List.filter_eq_self.2 fun y hy => by
    have := hr.1 y hy
    simp; omega
  | succ i =>
   simp at hi
   have := hr.1 h (List.mem_of_getElem? hi)
   rw [List.filter_cons_of_pos (by simp; omega)]
   simp only [List.take_succ_cons, List.cons_append, List.drop_succ_cons]
   rw [ih hr.2 hi]
theorem Co.drop (hD : Co L M) (o : Int) : Co (L.filter fun p => !(decide (p.1 = o))) (M.filter fun a => !(decide (a.owner = o))) := by
 refine ⟨?_, hD.rise.sublist List.filter_sublist, fun h hh p hp => hD.zone h (List.mem_filter.1 hh).1 p (List.mem_filter.1 hp).1, fun h hh => hD.zlen h (List.mem_filter.1 hh).1⟩
 have := hD.perm.filter fun c => !(decide (c.1 = o))
 rw [List.filter_map, List.filter_map] at this
 exact this
theorem VF (hl : M.length <= 1000) (hD : Co L M) (o : Int) : ∃ M', DA ⟨n, M⟩ o = some (⟨n, M'⟩, decide (o ∈ L.map (·.1))) /\ Co (L.filter fun p => !(decide (p.1 = o))) M' := by
 obtain ⟨t, t1, t2⟩ := UK (n := n) hl hD o
 unfold DA
 simp only [t1, Option.bind_some]
 rcases t2 with ⟨rfl, hm⟩ | ⟨i, h, rfl, h1, h2, hm⟩
 .refine ⟨M, ?_, ?_⟩
  .rw [decide_eq_false hm]; rfl
  rw [PQ hm]; exact hD
 have hil := Cl h1
 refine ⟨M.filter fun a => !(decide (a.owner = o)), ?_, hD.drop o⟩
 simp only [decide_eq_false (show ¬ ((i : Int) < 0) by omega), cond_false, As (show i < 1000000000 by omega)]
 rw [Pz (by omega), TZ (by omega)]
 simp only [Option.bind_some]
 rw [BY (by simp; omega)]
 simp only [Option.bind_some, List.nil_append]
 rw [BY (by simp; omega)]
 simp only [Option.bind_some]
 rw [XR hD.rise h1, h2, decide_eq_true hm]
theorem Sr (l : List AN) (hl : l.length <= 1000) (e : Int) : FP l e = some (l.filter fun y => !(decide (y.elem = e))) := by
 unfold FP
 have key : ∀ i, i <= l.length -> AY (DT l e) (0, ([] : List AN)) = AY (DT l e) ((i : Int), (l.take i).filter fun y => !(decide (y.elem = e))) := by
  intro i
  induction i with
  | zero => intro _; rfl
  | succ i ih =>
   intro hi
   have hlt : i < l.length := by omega
   have ha : l[i]? = some l[i] := List.getElem?_eq_getElem hlt
   rw [ih (by omega)]
   refine CJ ?_
   have hb := List.length_filter_le (fun y : AN => !(decide (y.elem = e))) (l.take i)
   rw [List.length_take] at hb
   rw [List.take_add_one, ha, Option.toList_some, List.filter_append]
   simp only [DT, Cc ha, cond_true, A0, ha, Option.bind_some, UH]
   by_cases c : l[i].elem = e
   .rw [if_pos c, List.filter_cons_of_neg (by simp [c])]
    simp only [Option.bind_some, List.filter_nil, List.append_nil, As (show i < 1000000000 by omega)]
   rw [if_neg c, List.filter_cons_of_pos (by simp [c]), BY (by simp; omega)]
   simp only [Option.bind_some, List.filter_nil, As (show i < 1000000000 by omega)]
 have := key l.length (Nat.le_refl _)
 rw [List.take_length] at this
 rw [this]
 exact B8 (by simp only [DT, Dw, cond_false])
def Hy (o e : Int) (h : Ae) : Ae := if h.owner = o then ⟨h.owner, h.steps.filter fun x => !(decide (x = e)), h.zone, h.needs.filter fun x => !(decide (x.elem = e)), h.guard⟩ else h
theorem KN (o e : Int) (h : Ae) : (Hy o e h).owner = h.owner := by unfold Hy; split <;> rfl
theorem PR (o e : Int) (h : Ae) : (Hy o e h).zone = h.zone := by unfold Hy; split <;> rfl
theorem Co.freeM (hD : Co L M) (o e : Int) : Co (freeM L o e) (M.map (Hy o e)) := by
 refine ⟨?_, ?_, fun h hh p hp hph x => ?_, fun h hh => ?_⟩
 .have := hD.perm.map fun c => if c.1 = o then (c.1, c.2.1.filter (fun x => !(decide (x = e))), c.2.2.1.filter (fun x => !(decide (x.elem = e))), c.2.2.2) else c
  rw [List.map_map, List.map_map] at this
  unfold Go.E.freeM
  rw [List.map_map, List.map_map]
  refine (List.Perm.of_eq ?_).trans (this.trans (List.Perm.of_eq ?_))
  .refine List.map_congr_left fun h _ => ?_
   by_cases c : h.owner = o <;> simp [Function.comp, Hy, Li, c]
  refine List.map_congr_left fun p _ => ?_
  by_cases c : p.1 = o <;> simp [Function.comp, Lj, Fj, c]
 .rw [List.pairwise_map]
  refine hD.rise.imp fun {a b} h => ?_
  rw [KN, KN]; exact h
 .obtain ⟨a, ha, rfl⟩ := List.mem_map.1 hh
  obtain ⟨q, hq, rfl⟩ := List.mem_map.1 hp
  rw [KN] at hph
  rw [PR]
  have : (if q.1 = o then (q.1, Fj e q.2) else q).1 = q.1 := by split <;> rfl
  rw [this] at hph
  rw [hD.zone a ha q hq hph]
  split <;> rfl
 obtain ⟨a, ha, rfl⟩ := List.mem_map.1 hh
 rw [PR]; exact hD.zlen a ha
theorem VG (hI : CO L) (hD : Co L M) {o e : Int} (h : ∀ p ∈ L, p.1 = o -> e ∉ p.2.st) : Cq ⟨n, M⟩ o e = some (⟨n, M⟩, false) := by
 have hlM : M.length <= 1000 := by have := hD.len; have := hI.len; omega
 obtain ⟨t, t1, t2⟩ := UK (n := n) hlM hD o
 unfold Cq
 simp only [t1, Option.bind_some]
 rcases t2 with ⟨rfl, hm⟩ | ⟨i, a, rfl, h1, h2, hm⟩
 .rfl
 obtain ⟨p, hp, p1, p2, -⟩ := hD.row (List.mem_of_getElem? h1)
 have hs := (hD.small hI (List.mem_of_getElem? h1)).1
 have hne : e ∉ a.steps := by rw [<- p2]; exact h p hp (p1.trans h2)
 simp only [decide_eq_false (show ¬ ((i : Int) < 0) by omega), cond_false, A0, h1, Option.bind_some, Lk a.steps (by omega), decide_eq_false hne, Bool.not_false, cond_true]
theorem UN (hI : CO L) (hD : Co L M) {p : Int × Bn} (hp : p ∈ L) {e : Int} (he : e ∈ p.2.st) : ∃ M', Cq ⟨n, M⟩ p.1 e = some (⟨n, M'⟩, true) /\ Co (GG L p.1 e) M' := by
 have hlM : M.length <= 1000 := by have := hD.len; have := hI.len; omega
 have hm : p.1 ∈ L.map (·.1) := List.mem_map_of_mem hp
 obtain ⟨t, t1, t2⟩ := UK (n := n) hlM hD p.1
 unfold Cq
 simp only [t1, Option.bind_some]
 rcases t2 with ⟨rfl, hm'⟩ | ⟨i, a, rfl, h1, h2, -⟩
 .exact absurd hm hm'
 obtain ⟨q, hq, p1, p2, p3, p4⟩ := hD.row (List.mem_of_getElem? h1)
 have hqp : q.2 = p.2 := VC hI hq (by show (p.1, p.2) ∈ L; exact hp) (p1.trans h2)
 rw [hqp] at p2 p3 p4
 obtain ⟨s1, s2, s3⟩ := hD.small hI (List.mem_of_getElem? h1)
 have s4 := hD.zlen a (List.mem_of_getElem? h1)
 have hin : e ∈ a.steps := by rw [<- p2]; exact he
 simp only [decide_eq_false (show ¬ ((i : Int) < 0) by omega), cond_false, A0, h1, Option.bind_some, Lk a.steps (by omega), decide_eq_true hin, Bool.not_true]
 have hloop : AY (CB ⟨n, M⟩ p.1 e (i : Int) a) (0, ([] : List Int)) = AY (CB ⟨n, M⟩ p.1 e (i : Int) a) ((a.steps.length : Int), a.steps.filter fun y => !(decide (y = e))) := by
  have key : ∀ j, j <= a.steps.length -> AY (CB ⟨n, M⟩ p.1 e (i : Int) a) (0, ([] : List Int)) = AY (CB ⟨n, M⟩ p.1 e (i : Int) a) ((j : Int), (a.steps.take j).filter fun y => !(decide (y = e))) := by
   intro j
   induction j with
   | zero => intro _; rfl
   | succ j ih =>
    intro hj
    have hlt : j < a.steps.length := by omega
    have ha : a.steps[j]? = some a.steps[j] := List.getElem?_eq_getElem hlt
    rw [ih (by omega)]
    refine CJ ?_
    have hb := List.length_filter_le (fun y : Int => !(decide (y = e))) (a.steps.take j)
    rw [List.length_take] at hb
    rw [List.take_add_one, ha, Option.toList_some, List.filter_append]
    simp only [CB, Cc ha, cond_true, A0, ha, Option.bind_some, UH]
    by_cases c : a.steps[j] = e
    .rw [if_pos c, List.filter_cons_of_neg (by simp [c])]
     simp only [Option.bind_some, List.filter_nil, List.append_nil, As (show j < 1000000000 by omega)]
    rw [if_neg c, List.filter_cons_of_pos (by simp [c]), BY (by simp; omega)]
    simp only [Option.bind_some, List.filter_nil, As (show j < 1000000000 by omega)]
  have := key a.steps.length (Nat.le_refl _)
  rw [List.take_length] at this
  exact this
 rw [hloop]
 have hset : IR M (i : Int) (⟨a.owner, a.steps.filter (fun y => !(decide (y = e))), a.zone, a.needs.filter (fun y => !(decide (y.elem = e))), a.guard⟩ : Ae) = M.map (Hy p.1 e) := by
  simp only [IR, Int.toNat_natCast]
  apply List.ext_getElem?
  intro j
  rw [List.getElem?_set, List.getElem?_map]
  split
  .rename_i hij
   subst hij
   rw [if_pos (Cl h1), h1]
   simp only [Option.map_some, Hy, h2, if_true]
  cases hj : M[j]? with
  | none => rfl
  | some b =>
   have : b.owner ≠ p.1 := fun hb => ‹¬ i = j› (hD.uniq h1 hj (h2.trans hb.symm))
   simp only [Option.map_some, Hy, if_neg this]
 have hDm := hD.freeM p.1 e
 have hsame : ∀ q ∈ Go.E.freeM L p.1 e, q.1 = p.1 -> q.2 = Fj e p.2 := fun q hq hqe => by
  obtain ⟨q0, h0, rfl⟩ := List.mem_map.1 hq
  by_cases c : q0.1 = p.1
  .rw [if_pos c]
   simp only
   rw [VC hI h0 (show (p.1, p.2) ∈ L from hp) c]
  rw [if_neg c] at hqe; exact absurd hqe c
 have hfl := List.length_filter_le (fun y : Int => !(decide (y = e))) a.steps
 have hzz : a.zone.length = 0 ↔ p.2.zn.length = 0 := by
  have hz := hD.zone a (List.mem_of_getElem? h1) p hp h2.symm
  rw [List.length_eq_zero_iff, List.length_eq_zero_iff, List.eq_nil_iff_forall_not_mem, List.eq_nil_iff_forall_not_mem]
  exact ⟨fun h x hx => h x ((hz x).2 hx), fun h x hx => h x ((hz x).1 hx)⟩
 have hsum : ((Ak ((Ak (((a.steps.filter fun y => !(decide (y = e))).length : Int) + (a.zone.length : Int))) + (a.guard.length : Int))) == 0) = !(Jx (Fj e p.2)) := by
  rw [DW (n := ((a.steps.filter fun y => !(decide (y = e))).length : Int) + (a.zone.length : Int)) (by omega) (by omega), DW (by omega) (by omega)]
  rw [Bool.eq_iff_iff]
  simp only [beq_iff_eq, Bool.not_eq_true', Jx, Fj, decide_eq_false_iff_not, p2, p4]
  omega
 have hend : ∃ b, (CB ⟨n, M⟩ p.1 e (i : Int) a) ((a.steps.length : Int), a.steps.filter fun y => !(decide (y = e))) = some (.inr b) /\ ∃ M', b = (⟨n, M'⟩, true) /\ Co (GG L p.1 e) M' := by
  simp only [CB, Dw, cond_false, Sr a.needs s2, A0, h1, Option.bind_some, hset, hsum]
  cases hlv : Jx (Fj e p.2) with
  | true =>
   refine ⟨_, rfl, M.map (Hy p.1 e), rfl, ?_⟩
   have : GG L p.1 e = Go.E.freeM L p.1 e := List.filter_eq_self.2 fun q hq => by
    by_cases c : q.1 = p.1
    .rw [hsame q hq c, hlv]; simp
    simp [c]
   rw [this]; exact hDm
  | false =>
   obtain ⟨M', m1, m2⟩ := VF (n := n) (by simpa using hlM) hDm p.1
   simp only [Bool.not_false, cond_true, m1, Option.bind_some, Option.map_some]
   refine ⟨_, rfl, M', rfl, ?_⟩
   have : GG L p.1 e = (Go.E.freeM L p.1 e).filter fun q => !(decide (q.1 = p.1)) := List.filter_congr fun q hq => by
    by_cases c : q.1 = p.1
    .rw [hsame q hq c, hlv]; simp
    simp [c]
   rw [this]; exact m2
 obtain ⟨b, hb, M', rfl, hM'⟩ := hend
 exact ⟨M', B8 hb, hM'⟩
end Go.E
/- Plain Lean: what is done to both books is answered alike, and leaves them alike (LockPlays, LockRoads). No condition. -/
namespace Go.E
open Go
noncomputable def SE (d o e : Int) (r : AV) (eb er : Int) (st zn : List (Int × List Int)) (nd gd : List (Int × List AN)) (M : List Ae) : Option (Bool × Int × Int × (List Ae) × (List (Int × (List Int))) × (List (Int × (List Int))) × (List (Int × (List AN))) × (List (Int × (List AN)))) :=
 (((bif (d == 0) then some (d == 0) else bif (d == 1) then some (d == 1) else some (d == 2) : Option (Bool))).bind fun (t10940 : Bool) => bif t10940 then (BB (⟨eb, st, zn, nd, gd⟩ : AS) o r).bind fun y10950 => (BE (⟨eb, st, zn, nd, gd⟩ : AS) o r).bind fun y10954 => ((bif (y10950 == y10954.2) then (Dj (⟨er, M⟩ : Ap) o r).bind fun y10963 => some ((y10954.2 == y10963.2), y10963.1.n, y10963.1.l) else some (false, er, M) : Option (Bool × Int × (List Ae)))).bind fun (t10960 : Bool × Int × (List Ae)) => some (t10960.1, t10960.2.1, y10954.1.elems, t10960.2.2, y10954.1.steps, y10954.1.zone, y10954.1.needs, y10954.1.guards) else ((bif (d == 3) then some (d == 3) else some (d == 4) : Option (Bool))).bind fun (t10970 : Bool) => bif t10970 then (B5 (⟨eb, st, zn, nd, gd⟩ : AS) o e).bind fun y10980 => (Cq (⟨er, M⟩ : Ap) o e).bind fun y10982 => some ((y10980.2 == y10982.2), y10982.1.n, y10980.1.elems, y10982.1.l, y10980.1.steps, y10980.1.zone, y10980.1.needs, y10980.1.guards) else bif (d == 5) then (Bm (⟨eb, st, zn, nd, gd⟩ : AS) o).bind fun y10990 => (DA (⟨er, M⟩ : Ap) o).bind fun y10992 => some ((y10990.2 == y10992.2), y10992.1.n, y10990.1.elems, y10992.1.l, y10990.1.steps, y10990.1.zone, y10990.1.needs, y10990.1.guards) else bif (d == 6) then ((some () : Option (Unit))).bind fun (t10999 : Unit) => (Bm (⟨eb, st, zn, nd, gd⟩ : AS) o).bind fun y11004 => (BE (⟨y11004.1.elems, y11004.1.steps, y11004.1.zone, y11004.1.needs, y11004.1.guards⟩ : AS) o r).bind fun y11008 => some (true, er, eb, M, st, zn, nd, gd) else some (true, er, eb, M, st, zn, nd, gd) : Option (Bool × Int × Int × (List Ae) × (List (Int × (List Int))) × (List (Int × (List Int))) × (List (Int × (List AN))) × (List (Int × (List AN)))))
variable {n : Int} {L : List (Int × Bn)} {M : List Ae}
structure Ln (L : List (Int × Bn)) (M : List Ae) : Prop where
 inv : CO L
 once : ∀ p ∈ L, p.2.st.Nodup
 doc : Co L M
theorem Ln.start : Ln [] [] := ⟨⟨by simp, by simp, by simp, by simp, by simp, by simp, by simp, by simp, by simp⟩, by simp, ⟨by simp, by simp, by simp, by simp⟩⟩
theorem SF (h : Ln L M) : EZ (bk n L) ⟨n, M⟩ = some true := by
 obtain ⟨hI, hO, hD⟩ := h
 have hol : (Dl (L.map (·.1))).length < 1000000 := by
  rw [(Ch _).length_eq, List.length_map]; have := hI.len; omega
 unfold EZ
 simp only [WE hI, SB hI hD, Option.bind_some, Ta _ _ hol, decide_true, Bool.not_true, cond_false]
 obtain ⟨b, hb, rfl⟩ : ∃ b, AY (Ek (bk n L) ⟨n, M⟩) (-1) = some b /\ b = true := by
  refine Kv (fun k s => s = (k : Int) - 1 /\ k <= 42) 42 ?_ ⟨rfl, by omega⟩
  rintro k s ⟨rfl, hk⟩
  by_cases c : k = 42
  .subst c
   exact .inl ⟨true, by simp only [Ek]; rfl, rfl⟩
  refine .inr ⟨by omega, _, ?_, rfl, by omega⟩
  simp only [Ek, decide_eq_true (show (k : Int) - 1 <= 40 by omega), cond_true, SD hI, VD hI hD, P0 hI, Px hI hD, P1 hI, TY hI hD, Option.bind_some, bne_self_eq_false, cond_false, Ta _ _ (WC hI _), decide_true, Bool.not_true]
  rw [DW (by omega) (by omega)]
  refine congrArg some (congrArg Sum.inl ?_)
  omega
 exact hb
theorem SG (hI : CO L) (hl : L.length < 1000) (o : Int) (r : AV) (hr : KM r) :
  BE (bk n L) o r = some (bk n (if Gu n L o r = 0 then L ++ [(o, FF r)] else L), Gu n L o r) /\ (Gu n L o r = 0 -> CO (L ++ [(o, FF r)]) /\ o ∉ L.map (·.1) /\ Ca n r) := by
 have hm := Wt (n := n) hI o r hr
 by_cases h0 : o < 0
 .have hv : Gu n L o r = 1 := by unfold Gu; rw [if_pos (.inl h0)]
  rw [hv] at hm ⊢
  rw [if_neg (by decide)]
  exact ⟨P2 _ _ _ hm (by decide), fun h => absurd h (by decide)⟩
 obtain ⟨v, h1, h2, h3⟩ := YP (n := n) hI hl o (by omega) r hr
 rw [hm] at h1
 cases h1
 exact ⟨h2, h3⟩
theorem YQ (h : Ln L M) (hl : L.length < 999) (d o e : Int) (r : AV) (hr : KM r) : ∃ L' M', Ln L' M' /\ L'.length <= L.length + 1 /\
  SE d o e r n n (bk n L).steps (bk n L).zone (bk n L).needs (bk n L).guards M = some (true, n, n, M', (bk n L').steps, (bk n L').zone, (bk n L').needs, (bk n L').guards) := by
 obtain ⟨hI, hO, hD⟩ := h
 have hlM : M.length <= 1000 := by have := hD.len; omega
 have same : (⟨n, (bk n L).steps, (bk n L).zone, (bk n L).needs, (bk n L).guards⟩ : AS) = bk n L := rfl
 have hmay := Wt (n := n) hI o r hr
 obtain ⟨htake, hok⟩ := SG (n := n) hI (by omega) o r hr
 by_cases d0 : d = 0 \/ d = 1 \/ d = 2
 .have dt : (bif (d == 0) then some (d == 0) else bif (d == 1) then some (d == 1) else some (d == 2) : Option Bool) = some true := by
   rcases d0 with rfl | rfl | rfl <;> rfl
  obtain ⟨M', m1, m2⟩ := YO (n := n) hI hD (by omega) o r hr
  refine ⟨if Gu n L o r = 0 then L ++ [(o, FF r)] else L, M', ⟨?_, ?_, m2⟩, ?_, ?_⟩
  .split
   .exact (hok ‹_›).1
   exact hI
  .split
   .intro p hp
    rcases List.mem_append.1 hp with hp | hp
    .exact hO p hp
    rw [List.mem_singleton] at hp; subst hp; exact (hok ‹_›).2.2.once
   exact hO
  .split
   .simp
   omega
  simp only [SE, dt, Option.bind_some, cond_true, same, hmay, htake, beq_self_eq_true, m1]
  rfl
 have dt : (bif (d == 0) then some (d == 0) else bif (d == 1) then some (d == 1) else some (d == 2) : Option Bool) = some false := by
  have e0 : (d == 0) = false := by simp; omega
  have e1 : (d == 1) = false := by simp; omega
  have e2 : (d == 2) = false := by simp; omega
  rw [e0, e1, e2]; rfl
 by_cases d3 : d = 3 \/ d = 4
 .have dt3 : (bif (d == 3) then some (d == 3) else some (d == 4) : Option Bool) = some true := by
   rcases d3 with rfl | rfl <;> rfl
  by_cases hfree : ∃ p ∈ L, p.1 = o /\ e ∈ p.2.st
  .obtain ⟨p, hp, rfl, he⟩ := hfree
   obtain ⟨M', m1, m2⟩ := UN (n := n) hI hD hp he
   have f1 := WA (n := n) hI hp (hO p hp) he
   have hsub := VB hI p.1 e
   refine ⟨GG L p.1 e, M', ⟨hsub.inv hI, fun q hq => ?_, m2⟩, by have := hsub.len; omega, ?_⟩
   .rcases QV.1 hq with ⟨h1, _⟩ | ⟨h1, h2, b, h3, h4⟩
    .exact hO q h1
    rw [h4]; exact (hO _ h3).filter _
   simp only [SE, dt, Option.bind_some, cond_false, dt3, cond_true, same, f1, m1, beq_self_eq_true]
   rfl
  have hno : ∀ p ∈ L, p.1 = o -> e ∉ p.2.st := fun p hp h1 h2 => hfree ⟨p, hp, h1, h2⟩
  have f1 := XO (n := n) hI hno
  have m1 := VG (n := n) hI hD hno
  refine ⟨L, M, ⟨hI, hO, hD⟩, by omega, ?_⟩
  simp only [SE, dt, Option.bind_some, cond_false, dt3, cond_true, same, f1, m1, beq_self_eq_true]
  rfl
 have dt3 : (bif (d == 3) then some (d == 3) else some (d == 4) : Option Bool) = some false := by
  have e0 : (d == 3) = false := by simp; omega
  have e1 : (d == 4) = false := by simp; omega
  rw [e0, e1]; rfl
 by_cases d5 : d = 5
 .obtain ⟨M', m1, m2⟩ := VF (n := n) hlM hD o
  have f1 := VH (n := n) hI o
  refine ⟨_, M', ⟨hI.drop o, fun p hp => hO p (List.mem_filter.1 hp).1, m2⟩, by have := List.length_filter_le (fun p : Int × Bn => !(decide (p.1 = o))) L; omega, ?_⟩
  have e5 : (d == 5) = true := by simp [d5]
  simp only [SE, dt, Option.bind_some, cond_false, dt3, e5, cond_true, same, f1, m1, beq_self_eq_true]
  rfl
 have e5 : (d == 5) = false := by simp; omega
 refine ⟨L, M, ⟨hI, hO, hD⟩, by omega, ?_⟩
 by_cases d6 : d = 6
 .have e6 : (d == 6) = true := by simp [d6]
  have f1 := VH (n := n) hI o
  have hlf := List.length_filter_le (fun p : Int × Bn => !(decide (p.1 = o))) L
  obtain ⟨f2, -⟩ := SG (n := n) (hI.drop o) (by omega) o r hr
  have f2' : BE ⟨(bk n (L.filter fun p => !(decide (p.1 = o)))).elems, (bk n (L.filter fun p => !(decide (p.1 = o)))).steps, (bk n (L.filter fun p => !(decide (p.1 = o)))).zone, (bk n (L.filter fun p => !(decide (p.1 = o)))).needs, (bk n (L.filter fun p => !(decide (p.1 = o)))).guards⟩ o r = _ := f2
  simp only [SE, dt, Option.bind_some, cond_false, dt3, e5, e6, cond_true, same, f1, f2']
 have e6 : (d == 6) = false := by simp; omega
 simp only [SE, dt, Option.bind_some, cond_false, dt3, e5, e6]
theorem Ss (l : List FQ) : ∃ b, IE l = some b /\ (b = true -> l.length <= 40 /\ ∀ a ∈ l, KM a.r) := by
 unfold IE
 by_cases h : (40 : Int) < (l.length : Int)
 .exact ⟨false, by simp only [decide_eq_true h, cond_true], by simp⟩
 simp only [decide_eq_false h, cond_false]
 refine Eo (l := l) (fun _ a => KM a.r) (fun good => ⟨true, by simp only [HJ, Dw, cond_false], fun _ => ⟨by omega, fun a ha => ?_⟩⟩) (fun i a ha _ => ?_)
 .obtain ⟨i, hi⟩ := List.mem_iff_getElem?.1 ha
  exact good i a hi
 have := Cl ha
 obtain ⟨b, hb, hb2⟩ := Su a.r
 simp only [HJ, Cc ha, cond_true, A0, ha, Option.bind_some, hb, As (show i < 1000000000 by omega)]
 cases b with
 | false => exact .inl ⟨false, rfl, by simp⟩
 | true =>
  obtain ⟨h1, -⟩ := hb2 rfl
  exact .inr ⟨rfl, ⟨h1.steps, h1.needs, h1.guards, h1.zone⟩⟩
theorem WF (x : Int) : (if (if 40 < x then 40 else x) > 0 then (if 40 < x then 40 else x) else 0) = (if 40 < (if 0 > x then 0 else x) then 40 else (if 0 > x then 0 else x)) := by
 split <;> split <;> split <;> first | rfl | omega | (split <;> omega)
theorem P3 (hk : FX = some true) (x : Int) (l : List FQ) : Fg x l = some true := by
 unfold Fg
 simp only [hk, Option.bind_some, Bool.not_true, cond_false]
 obtain ⟨b, hb, hb2⟩ := Ss l
 simp only [hb, Option.bind_some]
 cases b with
 | false => rfl
 | true =>
  obtain ⟨hlen, hlr⟩ := hb2 rfl
  simp only [Bool.not_true, cond_false, WF]
  generalize (if 40 < (if 0 > x then 0 else x) then 40 else (if 0 > x then 0 else x)) = n
  obtain ⟨t, ht, rfl⟩ : ∃ t, AY (Dd l) (0, n, n, [], [], [], [], ([] : List Ae)) = some t /\ t = true := by
   refine Kv (fun k s => k <= l.length /\ ∃ L M, Ln L M /\ L.length <= k /\ s = ((k : Int), n, n, (bk n L).steps, (bk n L).zone, (bk n L).needs, (bk n L).guards, M)) l.length ?_ ⟨Nat.zero_le _, [], [], Ln.start, Nat.zero_le _, rfl⟩
   rintro k s ⟨hkl, L, M, hB, hL, rfl⟩
   by_cases he : k = l.length
   .subst he
    refine .inl ⟨true, ?_, rfl⟩
    simp only [Dd, Dw, cond_false]
    exact congrArg (Option.map Sum.inr) (YL (SF (n := n) hB) rfl)
   have hlt : k < l.length := by omega
   obtain ⟨a, ha⟩ : ∃ a, l[k]? = some a := ⟨_, List.getElem?_eq_getElem hlt⟩
   obtain ⟨L', M', hB', hL', hdo⟩ := YQ (n := n) hB (by omega) a.do_ a.owner a.elem a.r (hlr a (List.mem_of_getElem? ha))
   have hal := SF (n := n) hB'
   have hhas := Iq (n := n) hB'.inv a.owner
   have hown := SB (n := n) hB'.inv hB'.doc
   have hol : (Dl (L'.map (·.1))).length < 1000000 := by
    rw [(Ch _).length_eq, List.length_map]; have := hB'.inv.len; omega
   have hin := Lk _ hol a.owner
   have hdec : decide (a.owner ∈ Dl (L'.map (·.1))) = decide (a.owner ∈ L'.map (·.1)) := decide_eq_decide.2 (Ch _).mem_iff
   refine .inr ⟨hlt, (((k + 1 : Nat) : Int), n, n, (bk n L').steps, (bk n L').zone, (bk n L').needs, (bk n L').guards, M'), ?_, by omega, L', M', hB', by omega, rfl⟩
   simp only [Dd, Cc ha, cond_true, A0, ha, Option.bind_some, As (show k < 1000000000 by omega)]
   refine YL hdo ?_
   have hq : ((bif (!true) then some true else (EZ (bk n L') ⟨n, M'⟩).bind fun y => bif (!y) then some true else (BL (bk n L') a.owner).bind fun y1 => (Cm ⟨n, M'⟩).bind fun y2 => (Cs y2 a.owner).bind fun y3 => some (!(y1 == y3)) : Option Bool)) = some false := by
    simp only [Bool.not_true, cond_false, hal, hhas, hown, hin, hdec, Option.bind_some, beq_self_eq_true]
   exact YL hq rfl
  exact ht
end Go.E
/- The known answers of layer 14. No condition. -/
set_option maxRecDepth 100000
namespace Go.E
open Go Go.Proofs
theorem bs {α β : Type} {o : Option α} {a : α} {f : α -> Option β} {r : β} (h : o = some a) (k : f a = some r) : o.bind f = some r := by rw [h]; exact k
theorem bt {α : Type} {c : Bool} {a b : Option α} {r : α} (h : c = true) (k : a = some r) : (bif c then a else b) = some r := by rw [h]; exact k
theorem bF {α : Type} {c : Bool} {a b : Option α} {r : α} (h : c = false) (k : b = some r) : (bif c then a else b) = some r := by rw [h]; exact k
noncomputable def Q6 : AW := G8.getD ⟨[], [], [], [], 0, 0, 0, 0, false⟩
noncomputable def Kt : List AV := match GZ Q6 with
 | some c => c.1.roads
 | none => []
noncomputable def kR (i : Nat) : AV := Kt.getD i ⟨0, 0, 0, [], [], [], [], [], false⟩
noncomputable def PG : AS := DB 6 1 (kR 1)
noncomputable def U5 : AS := ⟨6, BO 0 ((kR 0).steps.map (·.elem)) PG.steps, BO 0 (kR 0).zone PG.zone, BO 0 (kR 0).needs PG.needs, BO 0 (kR 0).guards PG.guards⟩
noncomputable def TM : AS := match B5 U5 1 2 with
 | some b => b.1
 | none => U5
noncomputable def PH : AS := match Bm TM 0 with
 | some b => b.1
 | none => TM
def U6 (n : Int) (r : AV) : Bool := decide (1 <= r.steps.length) && decide (r.steps.length <= 1000) && decide (r.needs.length <= 1000) && decide (r.guards.length <= 1000) && decide (r.zone.length <= 1000) && decide (∀ s ∈ r.steps, 0 <= s.elem /\ s.elem < n) &&
 decide ((r.steps.map (·.elem)).Nodup) && decide (∀ e ∈ r.zone, 0 <= e /\ e < n /\ e ∉ r.steps.map (·.elem)) && decide (∀ x ∈ r.needs ++ r.guards, (0 <= x.elem /\ x.elem < n) /\ (x.pos = 1 \/ x.pos = 2)) && decide (∀ a ∈ r.needs ++ r.guards, ∀ b ∈ r.needs ++ r.guards, a.elem = b.elem -> a.pos = b.pos)
theorem OI {n : Int} {r : AV} (h : U6 n r = true) : Ca n r := by
 simp only [U6, Bool.and_eq_true, decide_eq_true_eq] at h
 obtain ⟨⟨⟨⟨⟨⟨⟨⟨⟨h1, h2⟩, h3⟩, h4⟩, h5⟩, h6⟩, h7⟩, h8⟩, h9⟩, h10⟩ := h
 exact ⟨h1, h2, h3, h4, h5, h6, h7, h8, h9, h10⟩
def X6 (m : List (Int × List Int)) (e : Int) : Bool := decide (∀ p ∈ m, ∀ q ∈ m, e ∈ p.2 -> e ∈ q.2 -> p.1 = q.1) && decide (∀ p ∈ m, p.2.length < 1000000)
def Wq (b : AS) (e : Int) : Bool := decide (b.needs.length < 1000000) && decide (∀ p ∈ b.needs, ((Aj b.needs p.1).getD []).length < 100000 /\ ((Aj b.guards p.1).getD []).length < 100000) && decide (∀ x ∈ CV b e b.needs, ∀ y ∈ CV b e b.needs, x = y)
theorem U7 {b : AS} {e v : Int} (h : X6 b.steps e = true) (hv : OJ b.steps e = v) : Bb b e = some v := by
 simp only [X6, Bool.and_eq_true, decide_eq_true_eq] at h
 rw [Lc b e h.1 h.2, hv]
theorem TN {b : AS} {e : Int} {v : Int × Int} (h : Wq b e = true) (hv : ((CV b e b.needs).headD 0, ((CV b e b.needs).length : Int)) = v) : Bl b e = some v := by
 simp only [Wq, Bool.and_eq_true, decide_eq_true_eq] at h
 rw [Nc b e h.1.1 h.1.2 h.2, hv]
theorem XK : FX = some true := by
 have R0 : Ca 6 (kR 0) := OI (by kernel_rfl)
 have R1 : Ca 6 (kR 1) := OI (by kernel_rfl)
 have R4 : Ca 6 (kR 4) := OI (by kernel_rfl)
 have c4 : R2 (kR 1) (kR 4) = 14 := by kernel_rfl
 have c0 : R2 (kR 1) (kR 0) = 0 := by kernel_rfl
 have t1 : BE (Nd 6) 1 (kR 1) = some (PG, 0) := Yv 6 1 (kR 1) R1 (by decide)
 have m4 : BB PG 4 (kR 4) = some 14 := (X7 6 1 4 (kR 1) (kR 4) R1 R4 (by decide) (by decide) (by decide)).trans (congrArg some c4)
 have m0 : BB PG 0 (kR 0) = some 0 := (X7 6 1 0 (kR 1) (kR 0) R1 R0 (by decide) (by decide) (by decide)).trans (congrArg some c0)
 have t2 : BE PG 0 (kR 0) = some (U5, 0) := OK PG 0 (kR 0) R0 m0
 have h2 : Bl U5 2 = some (1, 1) := TN (by kernel_rfl) (by kernel_rfl)
 have f3 : B5 U5 1 2 = some (TM, true) := by kernel_rfl
 have h3 : Bl TM 2 = some (0, 0) := TN (by kernel_rfl) (by kernel_rfl)
 have o3 : Bb TM 3 = some 1 := U7 (by kernel_rfl) (by kernel_rfl)
 have d4 : Bm TM 0 = some (PH, true) := by kernel_rfl
 have d5 : Bm PH 0 = some (PH, false) := by kernel_rfl
 have os : CI PH = some [1] := by rw [QS PH (of_decide_eq_true (by kernel_rfl))]; exact congrArg some (by kernel_rfl)
 have o4 : Bb PH 1 = some (-1) := U7 (by kernel_rfl) (by kernel_rfl)
 have z4 : CA PH 1 = some [] := by rw [Lf PH 1 (of_decide_eq_true (by kernel_rfl)) (of_decide_eq_true (by kernel_rfl))]; exact congrArg some (by kernel_rfl)
 have hp : G8 = some Q6 := by kernel_rfl
 have hb : GZ Q6 = some (⟨Q6, Kt⟩, 0) := by kernel_rfl
 have s6 : ((Kt.length : Int) != 6) = false := by kernel_rfl
 have i1 : Ar Kt 1 = some (kR 1) := by kernel_rfl
 have i4 : Ar Kt 4 = some (kR 4) := by kernel_rfl
 have i0 : Ar Kt 0 = some (kR 0) := by kernel_rfl
 have hs : BL PH 1 = some true := by kernel_rfl
 have sm : DH [1] [1] = some true := by kernel_rfl
 unfold FX
 refine bs hp <| bs hb <| bs rfl <| bs (a := false) (bF rfl (congrArg some s6)) <| bF rfl <| bs i1 <| bs i4 <| bs i0 <| bs t1 <| bs m4 <| bs t2 <| bs h2 <| bs f3 <| bs h3 <| bs o3 <| bs d4 <| ?_
 refine bs (a := true) ?_ rfl
 refine bt rfl <| bt rfl <| bt rfl <| bt rfl <| bt rfl <| bt rfl <| bt rfl <| bt rfl <| bt rfl <| bt rfl <| bs d5 <| bt rfl <| bs os <| bs sm <| bt rfl <| bs hs <| bt rfl <| bs o4 <| bt rfl <| bs z4 rfl
end Go.E
