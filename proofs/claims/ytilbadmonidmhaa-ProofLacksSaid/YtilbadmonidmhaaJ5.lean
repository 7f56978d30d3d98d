/- Plain Lean: whether something is a road: the program's answer and the document's are one. No condition. -/
import Derived.KernelRfl
import Derived.Test.YtilbadmonidmhaaJ4
set_option linter.unusedVariables false
set_option linter.unusedSimpArgs false
namespace Go.E
open Go
theorem Gm {α : Type} {l : List α} {f : α -> Bool} (hl : l.length < 1000000) {step : Int -> Option (Int ⊕ Int)}
  (h0 : step (l.length : Int) = some (.inr (-1))) (h : ∀ (i : Nat) a, l[i]? = some a -> step (i : Int) = if f a = true then some (.inr (i : Int)) else some (.inl ((i + 1 : Nat) : Int))) :
  ∃ t, AO step 0 = some t /\ ((t = -1 /\ l.find? f = none) \/ ∃ a, 0 <= t /\ l.find? f = some a /\ Al l t = some a) := by
 have key : ∀ (r : List α) (i : Nat), l.drop i = r -> i <= l.length -> ∃ t, AO step (i : Int) = some t /\ ((t = -1 /\ r.find? f = none) \/ ∃ a, 0 <= t /\ r.find? f = some a /\ Al l t = some a) := by
  intro r
  induction r with
  | nil =>
   intro i hd hi
   have : i = l.length := by have := congrArg List.length hd; simp at this; omega
   subst this
   exact ⟨-1, CA h0, .inl ⟨rfl, rfl⟩⟩
  | cons a r ih =>
   intro i hd hi
   have hlt : i < l.length := by have := congrArg List.length hd; simp at this; omega
   have ha : l[i]? = some a := by
    have : (l.drop i)[0]? = some a := by rw [hd]; rfl
    simpa using this
   have hr : l.drop (i + 1) = r := by
    have : (l.drop i).drop 1 = r := by rw [hd]; rfl
    rwa [List.drop_drop] at this
   by_cases c : f a = true
   .exact ⟨i, CA (by rw [h i a ha, if_pos c]), .inr ⟨a, by omega, by simp [c], by rw [Ad, ha]⟩⟩
   obtain ⟨t, h1, h2⟩ := ih (i + 1) hr (by omega)
   refine ⟨t, by rw [C0 (by rw [h i a ha, if_neg c]), h1], ?_⟩
   simpa [List.find?_cons, c] using h2
 exact key l 0 rfl (Nat.zero_le _)
def OE (l : List BY) (o : Int) : Option BY := l.find? fun w => w.out == o
def Br (p : AK) (a : Int) : Option AG -> List AV -> List AX -> List AV -> Option (List AX)
 | _, _, nd, [] => some nd
 | none, _, _, _ :: _ => none
 | some x, pv, nd, s :: r => if s.elem ≠ x.elem \/ s.in_ ≠ x.fin \/ s.elem = a \/ s.elem ∈ pv.map (·.elem) then none else if An p s.elem = 4 then (if r = [] /\ s.out = -1 then some nd else none) else match OE (CU p s.elem s.in_) s.out with
  | none => none
  | some w => if r ≠ [] /\ 0 <= A3 p ⟨s.elem, s.out⟩ then none else Br p a (Ar p ⟨s.elem, s.out⟩) (pv ++ [s]) (DO nd s.elem w.pos) r
def Ic (p : AK) (fin to : Int) (l : AV) : Bool :=
 if An p l.elem = 4 then decide (fin = 2 /\ to = -1) else if 0 <= A3 p ⟨l.elem, l.out⟩ then decide (fin = 1 /\ to = A3 p ⟨l.elem, l.out⟩) else (Ar p ⟨l.elem, l.out⟩).isNone && decide (fin = 3 /\ to = -1)
def H8 (p : AK) (r : AW) : Bool := match Al p.signals r.frm with
 | none => false
 | some sg => if r.steps.length < 1 \/ 12 < r.steps.length then false else match Br p sg.at_.elem (Ar p sg.at_) [] [] r.steps with
  | none => false
  | some nd => match r.steps.getLast? with
   | none => false
   | some l => Ic p r.fin r.to l && decide (r.needs = nd)
theorem L8 {p : AK} {a : Int} : ∀ {r : List AV} {x : Option AG} {pv : List AV} {nd nd' : List AX}, Br p a x pv nd r = some nd' -> nd'.length <= nd.length + r.length
 | [], x, pv, nd, nd', h => by
  have : nd = nd' := by cases x <;> simpa [Br] using h
  subst this; simp
 | s :: r, none, pv, nd, nd', h => by simp [Br] at h
 | s :: r, some x, pv, nd, nd', h => by
  unfold Br at h
  split at h
  .cases h
  split at h
  .split at h
   .cases h; simp
   cases h
  split at h
  .cases h
  split at h
  .cases h
  have h1 := L8 h
  rename_i w _ _
  have h2 := Rl nd s.elem w.pos
  simp only [List.length_cons]; omega
section
variable {p : AK} {n : A5}
theorem VY (r : AW) (e : AV) (i : Nat) (hl : r.steps.length < 1000) : ∃ t, AO (Ew e (r.steps.take i)) 0 = some t /\ decide (0 <= t) = decide (e.elem ∈ (r.steps.take i).map (·.elem)) := by
 obtain ⟨t, h1, h2⟩ := Gm (l := r.steps.take i) (f := fun s => s.elem == e.elem) (step := Ew e (r.steps.take i)) (by rw [List.length_take]; omega)
  (by simp [Ew]) (fun j s hs => by
   have := BW hs
   rw [List.length_take] at this
   simp only [Ew, IX, BT hs, cond_true, Ad, hs, Option.bind_some, AZ (show j < 1000000000 by omega)]
   by_cases c : s.elem = e.elem <;> simp [c, CQ])
 refine ⟨t, h1, ?_⟩
 rcases h2 with ⟨rfl, h⟩ | ⟨s, h3, h4, _⟩
 .rw [show decide ((0 : Int) <= -1) = false by decide]
  symm; rw [decide_eq_false_iff_not]; intro hm
  obtain ⟨s, hs, he⟩ := List.mem_map.1 hm
  have := List.find?_eq_none.1 h s hs
  simp [he] at this
 rw [decide_eq_true h3]
 symm; rw [decide_eq_true_iff]
 have := List.find?_some h4
 exact List.mem_map.2 ⟨s, List.mem_of_find?_eq_some h4, by simpa using this⟩
theorem VZ (s : AV) (l : List BY) (hl : l.length < 1000) : ∃ t, AO (Ex s l) 0 = some t /\ ((t = -1 /\ OE l s.out = none) \/ ∃ w, 0 <= t /\ OE l s.out = some w /\ Al l t = some w) := by
 obtain ⟨t, h1, h2⟩ := Gm (l := l) (f := fun w => w.out == s.out) (step := Ex s l) (by omega)
  (by simp [Ex]) (fun j w hs => by
   have := BW hs
   simp only [Ex, IY, BT hs, cond_true, Ad, hs, Option.bind_some, AZ (show j < 1000000000 by omega)]
   by_cases c : w.out = s.out <;> simp [c, CQ])
 exact ⟨t, h1, h2⟩
theorem Ga {α : Type} (l : List α) (i : Nat) (h : i <= l.length) : F4 l 0 (i : Int) = some (l.take i) := by
 unfold F4
 rw [if_pos ⟨by omega, by omega, by omega⟩]; simp
def Rp (o : Option (List AX)) : List AX ⊕ Bool := match o with | none => .inr false | some nd => .inl nd
theorem Ps (hn : Ba p n) (r : AW) (a : AG) (b : Bool) (hl : r.steps.length <= 12) : ∀ (l : List AV) (i : Nat) (x : Option AG) (nd : List AX), r.steps.drop i = l -> i <= r.steps.length -> nd.length <= i ->
  AO (Bu n r (a, b)) (x.isSome, (i : Int), (x.getD ⟨0, 0⟩).elem, (x.getD ⟨0, 0⟩).fin, nd) = some (Rp (Br p a.elem x (r.steps.take i) nd l))
 | [], i, x, nd, hd, hi, hnd => by
  have : i = r.steps.length := by have := congrArg List.length hd; simp at this; omega
  subst this
  refine CA ?_
  have : Br p a.elem x (r.steps.take r.steps.length) nd [] = some nd := by cases x <;> rfl
  rw [this]
  simp only [Bu, Bx, cond_false]; rfl
 | s :: l, i, x, nd, hd, hi, hnd => by
  have hlt : i < r.steps.length := by have := congrArg List.length hd; simp at this; omega
  have hs : r.steps[i]? = some s := by
   have : (r.steps.drop i)[0]? = some s := by rw [hd]; rfl
   simpa using this
  have hr : r.steps.drop (i + 1) = l := by
   have : (r.steps.drop i).drop 1 = l := by rw [hd]; rfl
   rwa [List.drop_drop] at this
  have htk : r.steps.take (i + 1) = r.steps.take i ++ [s] := by rw [List.take_add_one, hs]; rfl
  have hw : AQ ((r.steps.length : Int) - 1) = (r.steps.length : Int) - 1 := by rw [CV] <;> omega
  have hlast : ((i : Int) == (r.steps.length : Int) - 1) = decide (l = []) := by
   have hlen := congrArg List.length hr
   rw [List.length_drop] at hlen
   by_cases c : l = []
   .subst c; simp at hlen; rw [beq_iff_eq.2 (by omega)]; simp
   have : l.length ≠ 0 := fun h => c (List.length_eq_zero_iff.1 h)
   rw [beq_eq_false_iff_ne.2 (by omega)]; simp [c]
  cases x with
  | none =>
   refine CA ?_
   simp only [Bu, BT hs, cond_true, Ad, hs, Option.bind_some, Option.isSome_none, Bool.not_false]
   rfl
  | some y =>
   have e0 : ∀ (c : Prop) [Decidable c], c -> (s.elem ≠ y.elem \/ s.in_ ≠ y.fin \/ s.elem = a.elem \/ s.elem ∈ (r.steps.take i).map (·.elem)) -> True := fun _ _ _ _ => trivial
   by_cases c1 : s.elem = y.elem
   .by_cases c2 : s.in_ = y.fin
    .by_cases c3 : s.elem = a.elem
     .refine CA ?_
      unfold Br
      rw [if_pos (.inr (.inr (.inl c3)))]
      simp only [Bu, BT hs, cond_true, Ad, hs, Option.bind_some, Option.isSome_some, Option.getD_some, Bool.not_true, cond_false, D7, CQ, if_pos c1, if_pos c2, if_pos c3]
      rfl
     obtain ⟨t, t1, t2⟩ := VY r s i (by omega)
     by_cases c4 : s.elem ∈ (r.steps.take i).map (·.elem)
     .refine CA ?_
      unfold Br
      rw [if_pos (.inr (.inr (.inr c4)))]
      rw [decide_eq_true c4] at t2
      simp only [Bu, BT hs, cond_true, Ad, hs, Option.bind_some, Option.isSome_some, Option.getD_some, Bool.not_true, cond_false, D7, CQ, if_pos c1, if_pos c2, if_neg c3, Ga r.steps i hi, t1, t2]
      rfl
     rw [decide_eq_false c4] at t2
     unfold Br
     rw [if_neg (by rintro (h | h | h | h) <;> first | exact h c1 | exact h c2 | exact c3 h | exact c4 h)]
     by_cases k4 : An p s.elem = 4
     .refine CA ?_
      rw [if_pos k4]
      simp only [Bu, BT hs, cond_true, Ad, hs, Option.bind_some, Option.isSome_some, Option.getD_some, Bool.not_true, cond_false, D7, CQ, if_pos c1, if_pos c2, if_neg c3, Ga r.steps i hi, t1, t2, DD hn, if_pos k4, hw, hlast]
      by_cases d1 : l = []
      .by_cases d2 : s.out = -1
       .simp [d1, d2, Rp]
       simp [d1, d2, Rp, D7]
      simp [d1, Rp]
     rw [if_neg k4]
     obtain ⟨u, u1, u2⟩ := VZ s (CU p s.elem s.in_) (by have := HP p s.elem s.in_; omega)
     rcases u2 with ⟨rfl, u2⟩ | ⟨w, u2, u3, u4⟩
     .refine CA ?_
      rw [u2]
      simp only [Bu, BT hs, cond_true, Ad, hs, Option.bind_some, Option.isSome_some, Option.getD_some, Bool.not_true, cond_false, D7, CQ, if_pos c1, if_pos c2, if_neg c3, Ga r.steps i hi, t1, t2, DD hn, if_neg k4, GX hn, u1, show decide ((-1 : Int) < 0) = true by decide]
      rfl
     rw [u3]
     dsimp only
     have du : decide (u < 0) = false := by simp; omega
     have hnl : (DO nd s.elem w.pos).length <= i + 1 := by have := Rl nd s.elem w.pos; omega
     have hneed : ((bif w.pos != 0 then (Bc nd [(⟨s.elem, w.pos⟩ : AX)]).bind fun y => some y else some nd : Option (List AX))) = some (DO nd s.elem w.pos) := by
      rw [D7]; unfold DO
      by_cases e : w.pos = 0
      .simp [e]
      simp only [if_neg e]
      rw [BS (by simp; omega)]; rfl
     simp only [D7] at hneed
     by_cases d1 : l = []
     .simp only [d1, ne_eq, not_true_eq_false, false_and, if_false]
      have ih := Ps hn r a b hl l (i + 1) (Ar p ⟨s.elem, s.out⟩) (DO nd s.elem w.pos) hr (by omega) hnl
      rw [htk, d1] at ih
      rw [<- ih]
      refine C0 ?_
      simp only [Bu, BT hs, cond_true, Ad, hs, Option.bind_some, Option.isSome_some, Option.getD_some, Bool.not_true, cond_false, D7, CQ, if_pos c1, if_pos c2, if_neg c3, Ga r.steps i hi, t1, t2, DD hn, if_neg k4, GX hn, u1, du, u4, hneed, hw, hlast, d1, decide_true, D2 hn, AZ (show i < 1000000000 by omega)]
     by_cases d2 : 0 <= A3 p ⟨s.elem, s.out⟩
     .rw [if_pos ⟨d1, d2⟩]
      refine CA ?_
      simp only [Bu, BT hs, cond_true, Ad, hs, Option.bind_some, Option.isSome_some, Option.getD_some, Bool.not_true, cond_false, D7, CQ, if_pos c1, if_pos c2, if_neg c3, Ga r.steps i hi, t1, t2, DD hn, if_neg k4, GX hn, u1, du, u4, hneed, hw, hlast, d1, decide_false, Bool.not_false, HO hn, d2, decide_true]
      rfl
     rw [if_neg (fun h => d2 h.2)]
     have ih := Ps hn r a b hl l (i + 1) (Ar p ⟨s.elem, s.out⟩) (DO nd s.elem w.pos) hr (by omega) hnl
     rw [htk] at ih
     rw [<- ih]
     refine C0 ?_
     simp only [Bu, BT hs, cond_true, Ad, hs, Option.bind_some, Option.isSome_some, Option.getD_some, Bool.not_true, cond_false, D7, CQ, if_pos c1, if_pos c2, if_neg c3, Ga r.steps i hi, t1, t2, DD hn, if_neg k4, GX hn, u1, du, u4, hneed, hw, hlast, d1, decide_false, Bool.not_false, HO hn, d2, D2 hn, AZ (show i < 1000000000 by omega)]
    refine CA ?_
    unfold Br
    rw [if_pos (.inr (.inl c2))]
    simp only [Bu, BT hs, cond_true, Ad, hs, Option.bind_some, Option.isSome_some, Option.getD_some, Bool.not_true, cond_false, D7, CQ, if_pos c1, if_neg c2]
    rfl
   refine CA ?_
   unfold Br
   rw [if_pos (.inl c1)]
   simp only [Bu, BT hs, cond_true, Ad, hs, Option.bind_some, Option.isSome_some, Option.getD_some, Bool.not_true, cond_false, D7, CQ, if_neg c1]
   rfl
theorem WV (hn : Ba p n) (r : AW) (l : AV) : Gz n r l = some (Ic p r.fin r.to l) := by
 unfold Gz Ic
 simp only [DD hn, HO hn, D2 hn, Option.bind_some, CQ]
 by_cases h1 : An p l.elem = 4
 .by_cases h2 : r.fin = 2 <;> simp [h1, h2, Bool.beq_eq_decide_eq]
  all_goals try rfl
 by_cases h2 : 0 <= A3 p ⟨l.elem, l.out⟩
 .by_cases h3 : r.fin = 1 <;> simp [h1, h2, h3]
  all_goals try rfl
 cases Ar p ⟨l.elem, l.out⟩ with
 | none =>
  by_cases h3 : r.fin = 3 <;> simp [h1, h2, h3]
  all_goals try rfl
 | some y => simp [h1, h2]
theorem Va {α : Type} (l : List α) (h : 1 <= l.length) (h2 : l.length < 1000000) : Al l (AQ ((l.length : Int) - 1)) = l.getLast? := by
 have : AQ ((l.length : Int) - 1) = ((l.length - 1 : Nat) : Int) := by rw [CV] <;> omega
 rw [this, Ad, List.getLast?_eq_getElem?]
theorem Tp (hn : Ba p n) (r : AW) (h2 : r.needs.length <= 1000) : Iu n r = some (H8 p r) := by
 unfold Iu H8
 rw [QI hn]
 cases hi : Al p.signals r.frm with
 | none => rfl
 | some sg =>
  simp only [Option.bind_some, Bool.not_true, cond_false]
  by_cases c1 : r.steps.length < 1
  .have d : decide ((r.steps.length : Int) < 1) = true := by simp; omega
   rw [if_pos (.inl c1)]
   simp only [d, cond_true, Option.bind_some]
  have d : decide ((r.steps.length : Int) < 1) = false := by simp; omega
  by_cases c2 : 12 < r.steps.length
  .have d2 : decide (12 < (r.steps.length : Int)) = true := by simp; omega
   rw [if_pos (.inr c2)]
   simp only [d, d2, cond_true, cond_false, Option.bind_some]
  have d2 : decide (12 < (r.steps.length : Int)) = false := by simp; omega
  rw [if_neg (by omega)]
  simp only [d, d2, cond_false, Option.bind_some, D2 hn]
  have hloop := Ps hn r sg.at_ true (by omega) r.steps 0 (Ar p sg.at_) [] rfl (by omega) (by simp)
  rw [List.take_zero] at hloop
  rw [show ((0 : Nat) : Int) = 0 from rfl] at hloop
  rw [hloop]
  cases hs : Br p sg.at_.elem (Ar p sg.at_) [] [] r.steps with
  | none => rfl
  | some nd =>
   have hlen := L8 hs
   rw [Va r.steps (by omega) (by omega)]
   obtain ⟨l, hl⟩ : ∃ l, r.steps.getLast? = some l := by
    rw [List.getLast?_eq_getElem?]; exact ⟨_, List.getElem?_eq_getElem (by omega)⟩
   simp only [Rp, Hc, Option.bind_some, hl, WV hn, WR r.needs nd (by omega)]
   cases Ic p r.fin r.to l <;> simp
end
end Go.E
/- Plain Lean: whether something is a road, as the document says; the roads of a signal are roads, and none is told twice. No condition. -/
namespace Go.E
open Go
theorem QJ (p : AK) (e i : Int) : (CU p e i).Pairwise (fun a b => a.out ≠ b.out) := by
 unfold CU
 repeat' split
 all_goals simp
theorem Uc {p : AK} {e i : Int} {w : BY} (h : w ∈ CU p e i) : 0 <= w.out /\ w.out < Cg (An p e) /\ 0 <= i /\ i < Cg (An p e) /\ An p e ≠ 4 /\ (w.pos ≠ 0 -> An p e = 2 /\ (w.pos = 1 \/ w.pos = 2)) := by
 unfold CU at h
 cases hh : D1 p ⟨e, i⟩ with
 | false => rw [hh] at h; simp at h
 | true =>
  obtain ⟨h1, h2, h3⟩ := GY hh
  simp only at h1 h2 h3
  rw [hh] at h
  simp only [if_true] at h
  by_cases k1 : An p e = 1
  .rw [k1] at h h3 ⊢
   simp [Cg] at h h3 ⊢
   subst h
   simp; omega
  by_cases k3 : An p e = 3
  .rw [k3] at h h3 ⊢
   simp [Cg] at h h3 ⊢
   subst h
   simp
   split
   .omega
   split
   .omega
   split <;> omega
  by_cases k2 : An p e = 2
  .rw [k2] at h h3 ⊢
   simp [Cg] at h h3 ⊢
   by_cases i0 : i = 0
   .subst i0
    simp at h
    rcases h with rfl | rfl <;> simp
   rw [if_neg i0] at h
   simp at h
   subst h
   simp; omega
  rw [if_neg k1, if_neg k3, if_neg k2] at h; simp at h
theorem Ud {l : List BY} {o : Int} {w : BY} (h : OE l o = some w) : w ∈ l /\ w.out = o := by
 refine ⟨List.mem_of_find?_eq_some h, ?_⟩
 have := List.find?_some h
 simpa using this
theorem Rq : ∀ {l : List BY} {w : BY}, l.Pairwise (fun a b => a.out ≠ b.out) -> w ∈ l -> OE l w.out = some w
 | a :: l, w, hp, hm => by
  rw [List.pairwise_cons] at hp
  unfold OE
  rw [List.find?_cons]
  rcases List.mem_cons.1 hm with rfl | hm
  .simp
  have := hp.1 w hm
  have e : (a.out == w.out) = false := beq_eq_false_iff_ne.2 this
  simp only [e]
  exact Rq hp.2 hm
section
variable {p : AK} {n : A5}
structure X1 (p : AK) (a s : Int) (x : AG) (st : List AV) (nd : List AX) (r : AW) (t : List AV) : Prop where
 frm : r.frm = s
 guards : r.guards = []
 zone : r.zone = []
 holds : r.holds = []
 bare : r.bare = false
 steps : r.steps = st ++ t
 ne : t ≠ []
 len : r.steps.length <= 12
 all : Br p a (some x) st nd t = some r.needs
 tail : ∀ l, t.getLast? = some l -> Ic p r.fin r.to l = true
theorem OF (s a : Int) : ∀ (k : Nat) (st : List AV) (nd : List AX) (x : AG) (r : AW), st.length + k = 13 -> r ∈ LN p s k st nd x (a :: st.map (·.elem)) -> ∃ t, X1 p a s x st nd r t /\ ∃ u t', t = u :: t' /\ u.elem = x.elem /\ u.in_ = x.fin
 | 0, st, nd, x, r, hk, hr => by simp [LN] at hr
 | k + 1, st, nd, x, r, hk, hr => by
  rw [L5] at hr
  by_cases hm : x.elem ∈ a :: st.map (·.elem) \/ st.length = 12
  .rw [if_pos hm] at hr; simp at hr
  rw [if_neg hm] at hr
  have hm1 : x.elem ∉ a :: st.map (·.elem) := fun h => hm (.inl h)
  have hm2 : ¬ (x.elem ≠ x.elem \/ x.fin ≠ x.fin \/ x.elem = a \/ x.elem ∈ st.map (·.elem)) := by
   rintro (h1 | h1 | h1 | h1)
   .exact h1 rfl
   .exact h1 rfl
   .exact hm1 (by rw [h1]; simp)
   exact hm1 (List.mem_cons_of_mem _ h1)
  have hlen : st.length < 12 := by
   have : st.length ≠ 12 := fun h => hm (.inr h)
   omega
  by_cases k4 : An p x.elem = 4
  .rw [if_pos k4] at hr
   simp at hr
   subst hr
   refine ⟨[⟨x.elem, x.fin, -1⟩], ⟨rfl, rfl, rfl, rfl, rfl, rfl, by simp, by simp [HQ]; omega, ?_, ?_⟩, _, _, rfl, rfl, rfl⟩
   .simp only [Br, if_neg hm2, if_pos k4, HQ, true_and, if_true]
   intro l hl
   simp at hl
   subst hl
   simp [Ic, k4, HQ]
  rw [if_neg k4] at hr
  obtain ⟨w, hw, hr⟩ := List.mem_flatMap.1 hr
  have hway := Rq (QJ p x.elem x.fin) hw
  unfold JC at hr
  by_cases hrd : 0 <= A3 p ⟨x.elem, w.out⟩
  .rw [if_pos hrd] at hr
   simp at hr
   subst hr
   refine ⟨[⟨x.elem, x.fin, w.out⟩], ⟨rfl, rfl, rfl, rfl, rfl, rfl, by simp, by simp [HQ]; omega, ?_, ?_⟩, _, _, rfl, rfl, rfl⟩
   .unfold Br; rw [if_neg hm2, if_neg k4, hway]; simp [Br, HQ]
   intro l hl
   simp at hl
   subst hl
   simp [Ic, k4, HQ, hrd]
  rw [if_neg hrd] at hr
  cases hnx : Ar p ⟨x.elem, w.out⟩ with
  | none =>
   rw [hnx] at hr
   simp at hr
   subst hr
   refine ⟨[⟨x.elem, x.fin, w.out⟩], ⟨rfl, rfl, rfl, rfl, rfl, rfl, by simp, by simp [HQ]; omega, ?_, ?_⟩, _, _, rfl, rfl, rfl⟩
   .unfold Br; rw [if_neg hm2, if_neg k4, hway]; simp [Br, HQ]
   intro l hl
   simp at hl
   subst hl
   simp [Ic, k4, HQ, hrd, hnx]
  | some y =>
   rw [hnx] at hr
   have hmm : a :: st.map (·.elem) ++ [x.elem] = a :: (st ++ [(⟨x.elem, x.fin, w.out⟩ : AV)]).map (·.elem) := by simp
   simp only at hr
   rw [hmm] at hr
   obtain ⟨t, ht, u, t', htu, -, -⟩ := OF s a k (st ++ [⟨x.elem, x.fin, w.out⟩]) (DO nd x.elem w.pos) y r (by simp; omega) hr
   refine ⟨⟨x.elem, x.fin, w.out⟩ :: t, ⟨ht.frm, ht.guards, ht.zone, ht.holds, ht.bare, by rw [ht.steps]; simp, by simp, ht.len, ?_, ?_⟩, _, _, rfl, rfl, rfl⟩
   .unfold Br
    rw [if_neg hm2, if_neg k4, hway]
    dsimp only
    rw [if_neg (fun h => hrd h.2), hnx]
    exact ht.all
   intro l hl
   refine ht.tail l ?_
   rw [htu] at hl ⊢
   rwa [List.getLast?_cons_cons] at hl
theorem DZ {s : Int} {r : AW} (h : r ∈ F8 p s) : H8 p r = true /\ r.frm = s /\ r.guards = [] /\ r.zone = [] /\ r.holds = [] /\ r.bare = false /\ r.steps.length <= 12 /\ 1 <= r.steps.length /\ r.needs.length <= 12 := by
 unfold F8 at h
 cases hi : Al p.signals s with
 | none => rw [hi] at h; simp at h
 | some sg =>
  rw [hi] at h
  simp only at h
  cases hx : Ar p sg.at_ with
  | none => rw [hx] at h; simp at h
  | some y =>
   rw [hx] at h
   simp only at h
   obtain ⟨t, ht, -⟩ := OF s sg.at_.elem 13 [] [] y r rfl (by simpa using h)
   have hst : r.steps = t := by rw [ht.steps]; rfl
   have hlen : 1 <= r.steps.length := by
    rw [hst]
    exact List.length_pos_iff.2 ht.ne
   have hl2 := ht.len
   have hnl := L8 ht.all
   rw [<- hst] at hnl
   simp only [List.length_nil] at hnl
   refine ⟨?_, ht.frm, ht.guards, ht.zone, ht.holds, ht.bare, ht.len, hlen, by omega⟩
   unfold H8
   rw [ht.frm, hi]
   simp only
   rw [if_neg (by omega), hx, hst, ht.all]
   obtain ⟨l, hl⟩ : ∃ l, t.getLast? = some l := by
    rw [List.getLast?_eq_getElem?]
    rw [hst] at hlen
    exact ⟨_, List.getElem?_eq_getElem (by omega)⟩
   simp only [hl, ht.tail l hl, decide_true, Bool.and_true]
theorem QK (s a : Int) (k : Nat) (st : List AV) (nd : List AX) (x : AG) (w : BY) (r : AW) (hk : st.length + (k + 1) = 13) (h : r ∈ JC p s k st nd x (a :: st.map (·.elem)) w) : r.steps[st.length]? = some ⟨x.elem, x.fin, w.out⟩ := by
 unfold JC at h
 split at h
 .simp at h; subst h; simp [HQ]
 split at h
 .simp at h; subst h; simp [HQ]
 rename_i y hy
 have hmm : a :: st.map (·.elem) ++ [x.elem] = a :: (st ++ [(⟨x.elem, x.fin, w.out⟩ : AV)]).map (·.elem) := by simp
 rw [hmm] at h
 obtain ⟨t, ht, -⟩ := OF s a k _ _ y r (by simp; omega) h
 rw [ht.steps]; simp
theorem QL (s a : Int) : ∀ (k : Nat) (st : List AV) (nd : List AX) (x : AG), st.length + k = 13 -> (LN p s k st nd x (a :: st.map (·.elem))).Nodup
 | 0, st, nd, x, hk => by simp [LN]
 | k + 1, st, nd, x, hk => by
  rw [L5]
  split
  .simp
  split
  .simp
  unfold List.Nodup; rw [List.pairwise_flatMap]
  refine ⟨fun w hw => ?_, ?_⟩
  .unfold JC
   split
   .simp
   split
   .simp
   rename_i y hy
   have hmm : a :: st.map (·.elem) ++ [x.elem] = a :: (st ++ [(⟨x.elem, x.fin, w.out⟩ : AV)]).map (·.elem) := by simp
   rw [hmm]
   exact QL s a k _ _ y (by simp; omega)
  refine (QJ p x.elem x.fin).imp fun {w v} hwv => ?_
  rintro r hr1 r2 hr2 rfl
  have h1 := QK s a k st nd x w r (by omega) hr1
  have h2 := QK s a k st nd x v r (by omega) hr2
  rw [h1] at h2
  simp at h2
  exact hwv h2
theorem Ue (s : Int) : (F8 p s).Nodup := by
 unfold F8
 split
 .simp
 split
 .simp
 rename_i sg _ _ y _
 have := QL (p := p) s sg.at_.elem 13 [] [] y rfl
 simpa using this
end
end Go.E
/- Plain Lean: RoadOfs, RoadAlls, RoadIsOne, RoadTurned and RoadEach answer true, for every argument. No condition. -/
namespace Go.E
open Go
theorem X2 {n : Int} (h : (Lit.int .u8 n).wf = true) : 0 <= n /\ n <= 255 /\ AQ n = n := by
 have : 0 <= n /\ n <= 255 := by simpa [Lit.wf, IntKind.min, IntKind.max, IntKind.signed, IntKind.bits] using h
 exact ⟨this.1, this.2, by rw [CV] <;> omega⟩
section
variable {p : AK} {n : A5}
theorem Pt (s : Int) : (F8 p s).length <= 2 ^ 13 := by
 unfold F8
 split
 .simp
 split
 .simp
 exact Pr p s 13 _ _ _ _
def JD (p : AK) (i : Nat) : List AW := (List.range i).flatMap fun (s : Nat) => F8 p (s : Int)
def Gb (p : AK) : List AW := JD p p.signals.length
theorem M6 (i : Nat) : JD p (i + 1) = JD p i ++ F8 p (i : Int) := by
 unfold JD
 rw [List.range_succ, List.flatMap_append]; simp
theorem Rr : ∀ i : Nat, (JD p i).length <= i * 2 ^ 13
 | 0 => by simp [JD]
 | i + 1 => by
  rw [M6, List.length_append]
  have := Rr i
  have := Pt (p := p) (i : Int)
  omega
def M7 (p : AK) : List AW × Int := if 64 < (Gb p).length then ([], 3) else (Gb p, 0)
theorem SQ (hn : Ba p n) (hs : p.signals.length <= 24) : Hn n = some (M7 p) := by
 unfold Hn
 have e : Bg n = some (p.signals.length : Int) := by unfold Bg; rw [hn.plan]
 rw [e]
 simp only [Option.bind_some]
 obtain ⟨b, h1, h2⟩ := B8 (l := p.signals) (step := EC n (p.signals.length : Int)) (Post := fun b => b = M7 p) (fun i o => o = JD p i) (c := [])
  (fun o ho => by
   refine ⟨M7 p, ?_, rfl⟩
   unfold M7 Gb
   rw [<- ho]
   by_cases c : 64 < o.length
   .have d : decide (64 < (o.length : Int)) = true := by simp; omega
    simp [EC, d, c]
   have d : decide (64 < (o.length : Int)) = false := by simp; omega
   simp [EC, d, c])
  (fun i a o ha ho => by
   have hi := BW ha
   have h1 := Rr (p := p) i
   have h2 := Pt (p := p) (i : Int)
   rw [<- ho] at h1
   refine .inr ⟨o ++ F8 p (i : Int), ?_, by rw [M6, ho]⟩
   simp only [EC, BT ha, cond_true, PH hn, Option.bind_some]
   rw [BS (by omega)]
   simp only [Option.bind_some, AZ (show i < 1000000000 by omega)])
  rfl
 rw [h1, h2]
end
end Go.E
/- Plain Lean: RoadRuns answers true, for every argument. No condition. -/
namespace Go.E
open Go
def Vb (pos : List Int) (e : Int) : Int := (Al pos e).getD 0
section
variable {p : AK} {n : A5}
theorem M8 {a : Int} : ∀ {t : List AV} {x : Option AG} {pv : List AV} {nd nd' : List AX}, (∀ m ∈ nd, m.elem ∈ pv.map (·.elem) /\ An p m.elem = 2 /\ (m.pos = 1 \/ m.pos = 2)) -> nd.Pairwise (fun a b => a.elem ≠ b.elem) -> Br p a x pv nd t = some nd' ->
  (∀ m ∈ nd', m.elem ∈ (pv ++ t).map (·.elem) /\ An p m.elem = 2 /\ (m.pos = 1 \/ m.pos = 2)) /\ nd'.Pairwise (fun a b => a.elem ≠ b.elem) /\ ∀ m ∈ nd, m ∈ nd'
 | [], x, pv, nd, nd', h1, h2, h => by
  have : nd = nd' := by cases x <;> simpa [Br] using h
  subst this
  exact ⟨by simpa using h1, h2, fun m hm => hm⟩
 | s :: r, none, pv, nd, nd', h1, h2, h => by simp [Br] at h
 | s :: r, some x, pv, nd, nd', h1, h2, h => by
  unfold Br at h
  split at h
  .cases h
  rename_i hc
  split at h
  .split at h
   .cases h
    exact ⟨fun m hm => ⟨by have := (h1 m hm).1; simp at this ⊢; exact .inl this, (h1 m hm).2⟩, h2, fun m hm => hm⟩
   cases h
  cases hw : OE (CU p s.elem s.in_) s.out with
  | none => rw [hw] at h; cases h
  | some w =>
   rw [hw] at h
   simp only at h
   split at h
   .cases h
   have hf := Uc (Ud hw).1
   have hsub : ∀ m ∈ DO nd s.elem w.pos, m ∈ nd \/ (m = ⟨s.elem, w.pos⟩ /\ w.pos ≠ 0) := by
    intro m hm
    unfold DO at hm
    split at hm
    .exact .inl hm
    rename_i c
    rcases List.mem_append.1 hm with hm | hm
    .exact .inl hm
    exact .inr ⟨by simpa using hm, c⟩
   have hnot : s.elem ∉ pv.map (·.elem) := fun h => hc (.inr (.inr (.inr h)))
   obtain ⟨g1, g2, g3⟩ := M8 (nd := DO nd s.elem w.pos) (pv := pv ++ [s]) (fun m hm => by
    rcases hsub m hm with hm | ⟨rfl, hp⟩
    .exact ⟨by have := (h1 m hm).1; simp at this ⊢; exact .inl this, (h1 m hm).2⟩
    .exact ⟨by simp, hf.2.2.2.2.2 hp⟩) (by
    unfold DO
    split
    .exact h2
    rw [List.pairwise_append]
    refine ⟨h2, by simp, fun m hm q hq => ?_⟩
    simp at hq
    subst hq
    intro he
    simp only at he
    rw [<- he] at hnot
    exact hnot (h1 m hm).1) h
   refine ⟨fun m hm => ?_, g2, fun m hm => g3 m ?_⟩
   .have := g1 m hm
    simpa using this
   unfold DO
   split
   .exact hm
   exact List.mem_append.2 (.inl hm)
theorem Tq {e : Int} (h : An p e ≠ 0) : 0 <= e /\ e < p.elems.length := by
 unfold An at h
 cases hi : Al p.elems e with
 | none => rw [hi] at h; simp at h
 | some a => exact Pp hi
theorem I1 {r : AW} (h : H8 p r = true) : ∃ sg nd l, Al p.signals r.frm = some sg /\ 1 <= r.steps.length /\ r.steps.length <= 12 /\ Br p sg.at_.elem (Ar p sg.at_) [] [] r.steps = some nd /\ r.steps.getLast? = some l /\ Ic p r.fin r.to l = true /\ r.needs = nd := by
 unfold H8 at h
 cases hi : Al p.signals r.frm with
 | none => rw [hi] at h; cases h
 | some sg =>
  rw [hi] at h
  simp only at h
  split at h
  .cases h
  cases hs : Br p sg.at_.elem (Ar p sg.at_) [] [] r.steps with
  | none => rw [hs] at h; cases h
  | some nd =>
   rw [hs] at h
   cases hl : r.steps.getLast? with
   | none => rw [hl] at h; cases h
   | some l =>
    rw [hl] at h
    simp only [Bool.and_eq_true, decide_eq_true_eq] at h
    exact ⟨sg, nd, l, rfl, by omega, by omega, hs, rfl, h.1, h.2⟩
end
end Go.E
/- Plain Lean: RoadRuns answers true, for every argument. No condition. -/
namespace Go.E
open Go
section
variable {p : AK} {n : A5}
end
end Go.E
/- Plain Lean: RoadWhole answers true, for every argument. No condition. -/
namespace Go.E
open Go
section
variable {p : AK} {n : A5}
end
end Go.E
/- Reach hands the keys of a map out in whatever order and sorts them: what it answers has no order in it; the example that the laws of sides AJ at. No condition. -/
namespace Go.E
open Go Go.Proofs
set_option maxRecDepth 100000
end Go.E
/- Plain Lean: the ports on the sides of a road, and what is its own: the program's answer and the document's are one (laws SidePorts, SideOwns). No condition. -/
namespace Go.E
open Go
theorem Ve {l : List AV} {e : Int} : decide (e ∈ l.map (·.elem)) = (l.find? fun s => s.elem == e).isSome := by
 induction l with
 | nil => simp
 | cons a l ih =>
  rw [List.find?_cons]
  by_cases c : a.elem = e
  .simp [c]
  have : (a.elem == e) = false := beq_eq_false_iff_ne.2 c
  rw [this]
  simp only [List.map_cons, List.mem_cons, Ne.symm c, false_or]
  exact ih
theorem Rt (r : AW) (hl : r.steps.length < 1000000) (e : Int) : ER r e = some (decide (e ∈ r.steps.map (·.elem))) := by
 unfold ER
 obtain ⟨t, h1, h2⟩ := Gm (l := r.steps) (f := fun s => s.elem == e) hl (step := Fp r e) (by simp [Fp]) (fun i a ha => by
  have := BW ha
  simp only [Fp, Hu, BT ha, cond_true, Ad, ha, Option.bind_some, AZ (show i < 1000000000 by omega)]
  by_cases c : a.elem = e
  .simp [c]
  have : (a.elem == e) = false := beq_eq_false_iff_ne.2 c
  simp [this])
 rw [h1, Ve]
 simp only [Option.bind_some, Option.some.injEq]
 rcases h2 with ⟨rfl, h2⟩ | ⟨a, h0, h2, _⟩
 .rw [h2]; rfl
 rw [h2]; simp [h0]
theorem KR {α β γ : Type} (B : Nat) {l : List α} (f : α -> List β) (hf : ∀ a, (f a).length <= 4) (hl : l.length <= 100000) {step : Int × List β -> Option (Int × List β ⊕ γ)} {fin : List β -> γ}
  (h0 : ∀ o, step ((l.length : Int), o) = some (.inr (fin o))) (h1 : ∀ (i : Nat) a o, l[i]? = some a -> o.length <= B + 400000 -> step ((i : Int), o) = some (.inl (((i + 1 : Nat) : Int), o ++ f a))) (o : List β) (ho : o.length <= B) :
  AO step ((0 : Int), o) = some (fin (o ++ l.flatMap f)) := by
 have hlen : ∀ i, ((l.take i).flatMap f).length <= i * 4 := by
  intro i
  induction i with
  | zero => simp
  | succ i ih =>
   rw [List.take_add_one, List.flatMap_append, List.length_append]
   cases h : l[i]? with
   | none => simp only [Option.toList_none, List.flatMap_nil, List.length_nil]; omega
   | some a =>
    have := hf a
    simp only [Option.toList_some, List.flatMap_cons, List.flatMap_nil, List.append_nil]
    omega
 obtain ⟨b, h2, rfl⟩ := B8 (l := l) (step := step) (Post := fun b => b = fin (o ++ l.flatMap f)) (fun i c => c = o ++ (l.take i).flatMap f) (c := o)
  (fun c hc => ⟨fin c, h0 c, by rw [hc, List.take_length]⟩)
  (fun i a c ha hc => by
   have hi := BW ha
   have := hlen i
   refine .inr ⟨c ++ f a, h1 i a c ha (by rw [hc, List.length_append]; omega), ?_⟩
   rw [hc, List.take_add_one, ha]
   simp only [Option.toList_some, List.flatMap_append, List.flatMap_cons, List.flatMap_nil, List.append_nil, List.append_assoc])
  (by simp)
 exact h2
section
variable {p : AK} {n : A5}
def L9 (p : AK) (s : AV) : List Int :=
 if An p s.elem = 2 then [AQ (3 - (if s.out > s.in_ then s.out else s.in_))] else if An p s.elem = 3 then (if 1 < s.in_ then [0, 1] else [2, 3]) else []
def KS (p : AK) (e : Int) (k : Int) : List AG := if (Ar p ⟨e, k⟩).isSome then [⟨e, k⟩] else []
def LQ (p : AK) (s : AV) : List AG := (L9 p s).flatMap (KS p s.elem)
def CS (p : AK) (l : List AV) : List AG := l.flatMap (LQ p)
theorem QN (s : AV) : (L9 p s).length <= 2 := by
 unfold L9
 split
 .simp
 split
 .split <;> simp
 simp
theorem QO (e k : Int) : (KS p e k).length <= 1 := by unfold KS; split <;> simp
theorem PJ (s : AV) : (LQ p s).length <= 2 := by
 have := HR (KS p s.elem) 1 (L9 p s) fun k _ => QO s.elem k
 have := QN (p := p) s
 unfold LQ
 omega
theorem Hy (l : List AV) : (CS p l).length <= l.length * 2 := HR _ 2 l fun s _ => PJ s
theorem Vf (hn : Ba p n) (s : AV) (c : Int × List AG) (ks : List Int) (hk : ks.length <= 10) (o : List AG) (ho : o.length <= 400000) :
  AO (EY n c s ks) (0, o) = some (.inl (AQ (c.1 + 1), o ++ ks.flatMap (KS p s.elem))) := by
 refine KR 400000 (l := ks) (KS p s.elem) (fun k => by have := QO (p := p) s.elem k; omega) (by omega) (fin := fun o => (Sum.inl (AQ (c.1 + 1), o) : (Int × List AG) ⊕ List AG)) (fun o => ?_) (fun i a o ha hb => ?_) o ho
 .simp only [EY, Bx, cond_false]
 have := BW ha
 simp only [EY, BT ha, cond_true, Ad, ha, Option.bind_some, D2 hn, AZ (show i < 1000000000 by omega)]
 unfold KS
 cases (Ar p ⟨s.elem, a⟩).isSome with
 | true => simp [BS (show o.length + [(⟨s.elem, a⟩ : AG)].length <= 4294967296 by simp; omega)]
 | false => simp
theorem Ru (hn : Ba p n) (r : AW) (hl : r.steps.length <= 1000) : Ey n r = some (CS p r.steps) := by
 unfold Ey
 rw [show CS p r.steps = ([] : List AG) ++ r.steps.flatMap (LQ p) from rfl]
 refine KR 0 (l := r.steps) (LQ p) (fun s => by have := PJ (p := p) s; omega) (by omega) (fin := fun o => o) (fun o => ?_) (fun i s o ha hb => ?_) [] (by simp)
 .simp only [F7, Bx, cond_false]
 have hi := BW ha
 simp only [F7, BT ha, cond_true, Ad, ha, Option.bind_some, DD hn]
 have e : (bif (An p s.elem == 2) then some [AQ (3 - (if s.out > s.in_ then s.out else s.in_))] else bif (An p s.elem == 3) then bif decide (1 < s.in_) then some [0, 1] else some [2, 3] else some ([] : List Int) : Option (List Int)) = some (L9 p s) := by
  unfold L9
  by_cases c2 : An p s.elem = 2
  .simp [c2]
  have b2 : (An p s.elem == 2) = false := beq_eq_false_iff_ne.2 c2
  by_cases c3 : An p s.elem = 3
  .by_cases d : 1 < s.in_ <;> simp [b2, c2, c3, d]
  have b3 : (An p s.elem == 3) = false := beq_eq_false_iff_ne.2 c3
  simp [b2, b3, c2, c3]
 rw [e]
 have hk := QN (p := p) s
 simp only [Option.bind_some, Vf hn s ((i : Int), o) (L9 p s) (by omega) o (by omega), AZ (show i < 1000000000 by omega)]
 rfl
theorem Gc {s : Int} {r : AW} (h : r ∈ F8 p s) : r.steps.length <= 12 := (DZ h).2.2.2.2.2.2.1
end
end Go.E
/- Plain Lean: which ports lie on the sides of a road (law SideApart). No condition. -/
namespace Go.E
open Go
section
variable {p : AK} {n : A5}
end
end Go.E
/- Plain Lean: what the sides of a road reach, told without an order (KT, JO): the program's answer. No condition. -/
namespace Go.E
open Go
def BH (vis : List (AG × Bool)) (x : AG) : Bool := (Af vis x).getD false
theorem Fb (vis : List (AG × Bool)) (x y : AG) : BH (A6 x true vis) y = true ↔ y = x \/ BH vis y = true := by
 unfold BH
 rw [Dp]
 by_cases e : y = x <;> simp [e]
theorem Ku {α : Type} {P P' : α -> Bool} (hpp : ∀ z, P' z = true -> P z = true) : ∀ l : List α, (l.filter P').length <= (l.filter P).length /\ ∀ x ∈ l, P x = true -> P' x = false -> (l.filter P').length + 1 <= (l.filter P).length
 | [] => ⟨Nat.le_refl _, by simp⟩
 | a :: l => by
  obtain ⟨h1, h2⟩ := Ku hpp l
  rw [List.filter_cons, List.filter_cons]
  by_cases c : P' a = true
  .rw [if_pos c, if_pos (hpp a c)]
   simp only [List.length_cons]
   refine ⟨by omega, fun x hx hp hp' => ?_⟩
   rcases List.mem_cons.1 hx with rfl | hx
   .rw [c] at hp'; cases hp'
   have := h2 x hx hp hp'; omega
  rw [if_neg c]
  by_cases d : P a = true
  .rw [if_pos d]
   simp only [List.length_cons]
   exact ⟨by omega, fun x hx hp hp' => by omega⟩
  rw [if_neg d]
  refine ⟨h1, fun x hx hp hp' => ?_⟩
  rcases List.mem_cons.1 hx with rfl | hx
  .exact absurd hp d
  exact h2 x hx hp hp'
section
variable {p : AK} {n : A5}
def NZ (p : AK) (shut : List Bool) (x : AG) : Bool := decide (0 <= A3 p x) && (Al shut (A3 p x)).getD false
inductive KT (p : AK) (pos : List Int) (shut : List Bool) (st : List AV) : AG -> Prop
 | init {x y : AG} : x ∈ CS p st -> Ar p x = some y -> KT p pos shut st y
 | step {x y : AG} {o : Int} : KT p pos shut st x -> x.elem ∉ st.map (·.elem) -> NZ p shut x = false -> An p x.elem ≠ 4 -> D3 p x.elem x.fin (Vb pos x.elem) = some o -> Ar p ⟨x.elem, o⟩ = some y -> KT p pos shut st y
def JO (p : AK) (pos : List Int) (shut : List Bool) (st : List AV) (e : Int) : Prop :=
 ∃ x, KT p pos shut st x /\ x.elem = e /\ e ∉ st.map (·.elem) /\ NZ p shut x = false /\ (An p e = 4 \/ (D3 p e x.fin (Vb pos e)).isSome = true)
variable {pos : List Int} {shut : List Bool} {r : AW}
theorem KT.from {st : List AV} {y : AG} (h : KT p pos shut st y) : ∃ x, Ar p x = some y := by
 cases h with
 | init h1 h2 => exact ⟨_, h2⟩
 | step _ _ _ _ _ h2 => exact ⟨_, h2⟩
theorem Uf {x : AG} (h : D1 p x = true) : 0 <= x.elem /\ x.elem < p.elems.length := by
 obtain ⟨h1, h2, h3⟩ := GY h
 refine Tq fun e => ?_
 rw [e] at h3
 simp [Cg] at h3
 omega
def PK (vis : List (AG × Bool)) (zone : List (Int × Bool)) (p : AK) (y : AG) : Prop := BH vis y = true \/ (An p y.elem = 4 /\ (Af zone y.elem).isSome = true)
def Tu (p : AK) (pos : List Int) (shut : List Bool) (st : List AV) (q : List AG) (vis : List (AG × Bool)) (zone : List (Int × Bool)) (x : AG) : Prop :=
 x.elem ∉ st.map (·.elem) -> NZ p shut x = false -> An p x.elem ≠ 4 /\ ∀ o, D3 p x.elem x.fin (Vb pos x.elem) = some o -> (Af zone x.elem).isSome = true /\ ∀ y, Ar p ⟨x.elem, o⟩ = some y -> y ∈ q \/ PK vis zone p y
def MQ (p : AK) (vis : List (AG × Bool)) : Nat := ((Bz p).filter fun x => !BH vis x).length
structure RI (p : AK) (pos : List Int) (shut : List Bool) (st : List AV) (M k : Nat) (q : List AG) (vis : List (AG × Bool)) (zone : List (Int × Bool)) : Prop where
 arr : ∀ x ∈ q, KT p pos shut st x
 full : ∀ x, BH vis x = true -> Tu p pos shut st q vis zone x
 init : ∀ x y, x ∈ CS p st -> Ar p x = some y -> y ∈ q \/ PK vis zone p y
 zon : ∀ e, (Af zone e).isSome = true -> JO p pos shut st e
 nodup : (zone.map (·.1)).Nodup
 len : zone.length <= k
 meas : k + q.length + 2 * MQ p vis <= M
theorem RI.next {st : List AV} {M k : Nat} {x : AG} {q q' : List AG} {vis vis' : List (AG × Bool)} {zone zone' : List (Int × Bool)} (h : RI p pos shut st M k (x :: q) vis zone)
  (hq : ∀ y ∈ q, y ∈ q') (hq2 : ∀ y ∈ q', KT p pos shut st y) (hv : ∀ y, BH vis y = true -> BH vis' y = true) (hv2 : ∀ y, BH vis' y = true -> BH vis y = true \/ y = x)
  (hz : ∀ e, (Af zone e).isSome = true -> (Af zone' e).isSome = true) (hz2 : ∀ e, (Af zone' e).isSome = true -> JO p pos shut st e) (hz3 : (zone'.map (·.1)).Nodup) (hz4 : zone'.length <= zone.length + 1)
  (hx : PK vis' zone' p x) (hf : BH vis' x = true -> BH vis x = false -> Tu p pos shut st q' vis' zone' x) (hm : q'.length + 2 * MQ p vis' <= q.length + 2 * MQ p vis) : RI p pos shut st M (k + 1) q' vis' zone' := by
 have keep : ∀ y, (y ∈ x :: q \/ PK vis zone p y) -> y ∈ q' \/ PK vis' zone' p y := by
  rintro y (hy | hy | ⟨hy, hy2⟩)
  .rcases List.mem_cons.1 hy with rfl | hy
   .exact .inr hx
   exact .inl (hq y hy)
  .exact .inr (.inl (hv y hy))
  exact .inr (.inr ⟨hy, hz _ hy2⟩)
 refine ⟨hq2, fun y hy => ?_, fun a y ha hy => keep y (h.init a y ha hy), hz2, hz3, by have := h.len; omega, by have := h.meas; simp only [List.length_cons] at this; omega⟩
 have old : BH vis y = true -> Tu p pos shut st q' vis' zone' y := fun hy => fun h1 h2 => by
  obtain ⟨g1, g2⟩ := h.full y hy h1 h2
  exact ⟨g1, fun o ho => ⟨hz _ (g2 o ho).1, fun z hz' => keep z ((g2 o ho).2 z hz')⟩⟩
 rcases hv2 y hy with hy' | rfl
 .exact old hy'
 cases c : BH vis y with
 | true => exact old c
 | false => exact hf hy c
theorem Vg {α : Type} (x : α) (l : List α) : LB (x :: l) 1 (((x :: l).length : Nat) : Int) = some l := by
 show F4 (x :: l) _ _ = _
 unfold F4
 rw [if_pos ⟨by omega, by simp; omega, by omega⟩]
 simp
end
end Go.E
/- Plain Lean: the elements that Reach answers are those of JO, ascending (laws SideShut, SideRuns). No condition. -/
namespace Go.E
open Go
section
variable {p : AK} {n : A5} {pos : List Int} {shut : List Bool} {r : AW}
theorem KT.in_ports {st : List AV} {x : AG} (h : KT p pos shut st x) : x ∈ Bz p := by
 obtain ⟨y, hy⟩ := h.from
 exact KQ hy
theorem W3 {vis : List (AG × Bool)} (x : AG) : MQ p (A6 x true vis) <= MQ p vis :=
 (Ku (fun z hz => by
  cases hs : BH vis z with
  | false => rfl
  | true =>
   have := (Fb vis x z).2 (.inr hs)
   simp only [this, Bool.not_true] at hz
   cases hz) (Bz p)).1
theorem Ug {vis : List (AG × Bool)} {x : AG} (hx : x ∈ Bz p) (hv : BH vis x = false) : MQ p (A6 x true vis) + 1 <= MQ p vis :=
 (Ku (fun z hz => by
  cases hs : BH vis z with
  | false => rfl
  | true =>
   have := (Fb vis x z).2 (.inr hs)
   simp only [this, Bool.not_true] at hz
   cases hz) (Bz p)).2 x hx (by simp [hv]) (by simp [(Fb vis x x).2 (.inl rfl)])
def Cf (p : AK) (l : List AG) : List AG := l.map fun x => (Ar p x).getD ⟨0, 0⟩
theorem J0 {l : List AV} {x : AG} (h : x ∈ CS p l) : ∃ y, Ar p x = some y := by
 unfold CS LQ at h
 obtain ⟨s, _, h⟩ := List.mem_flatMap.1 h
 obtain ⟨k, _, h⟩ := List.mem_flatMap.1 h
 unfold KS at h
 split at h
 .rename_i hs
  simp at h
  subst h
  exact Option.isSome_iff_exists.1 hs
 simp at h
theorem QP {a b : List Bool} (h : ∀ j : Nat, a[j]? = some true -> b[j]? = some true) {x : AG} (hs : NZ p b x = false) : NZ p a x = false := by
 unfold NZ at *
 by_cases c : 0 <= A3 p x
 .obtain ⟨i, hi⟩ := Int.eq_ofNat_of_zero_le c
  rw [hi] at hs ⊢
  simp only [Ad, Int.natCast_nonneg, decide_true, Bool.true_and] at hs ⊢
  cases ha : a[i]? with
  | none => rfl
  | some v =>
   cases v with
   | false => rfl
   | true => rw [h i ha] at hs; cases hs
 simp [c]
theorem KT.mono {a b : List Bool} (h : ∀ j : Nat, a[j]? = some true -> b[j]? = some true) {st : List AV} {x : AG} (hx : KT p pos b st x) : KT p pos a st x := by
 induction hx with
 | init h1 h2 => exact .init h1 h2
 | step h1 h2 h3 h4 h5 h6 ih => exact .step ih h2 (QP h h3) h4 h5 h6
theorem JO.mono {a b : List Bool} (h : ∀ j : Nat, a[j]? = some true -> b[j]? = some true) {st : List AV} {e : Int} (hx : JO p pos b st e) : JO p pos a st e := by
 obtain ⟨x, h1, h2, h3, h4, h5⟩ := hx
 exact ⟨x, h1.mono h, h2, h3, QP h h4, h5⟩
theorem JO.range (hv : CD p) {st : List AV} {e : Int} (h : JO p pos shut st e) : 0 <= e /\ e < p.elems.length := by
 obtain ⟨x, h1, rfl, _⟩ := h
 obtain ⟨w, hw⟩ := h1.from
 exact Uf (hv.join.next hw)
end
end Go.E
/- Plain Lean: what is reached is in order, outside the road, and no more if more signals are shut (law SideShut); a run that comes in from the side begins in it (law SideRuns). No condition. -/
namespace Go.E
open Go
section
variable {p : AK} {n : A5} {pos : List Int} {shut : List Bool} {r : AW}
theorem WW (hn : Ba p n) : EG n = some (p.elems.length : Int) := by
 unfold EG; rw [hn.plan]
end
end Go.E
/- Plain Lean: a run that comes in from the side begins in an element that is reached (law SideRuns). No condition. -/
namespace Go.E
open Go
theorem MA {x : AG} : ∀ {l m : List C2}, x ∉ (l.flatMap fun j => [j.a, j.b]) -> CI (l ++ m) x = CI m x
 | [], m, _ => rfl
 | j :: l, m, h => by
  simp only [List.flatMap_cons, List.mem_append, List.mem_cons, List.not_mem_nil, or_false, not_or] at h
  obtain ⟨⟨h1, h2⟩, h3⟩ := h
  simp only [List.cons_append, CI]
  rw [if_neg (fun e => h1 e.symm), if_neg (fun e => h2 e.symm)]
  exact MA h3
theorem Nq {x y : AG} : ∀ {l : List C2}, CI l x = some y -> ∃ l1 j l2, l = l1 ++ j :: l2 /\ ((j.a = x /\ j.b = y) \/ (j.b = x /\ j.a = y))
 | j :: l, h => by
  simp only [CI] at h
  split at h
  .rename_i e; cases h; exact ⟨[], j, l, rfl, .inl ⟨e, rfl⟩⟩
  split at h
  .rename_i e; cases h; exact ⟨[], j, l, rfl, .inr ⟨e, rfl⟩⟩
  obtain ⟨l1, k, l2, e, hk⟩ := Nq h
  exact ⟨j :: l1, k, l2, by rw [e]; rfl, hk⟩
section
variable {p : AK} {n : A5} {pos : List Int} {shut : List Bool} {r : AW}
theorem SU (hj : Gl p) : (Bz p).Nodup := by
 rw [List.Nodup, List.pairwise_iff_getElem]
 intro i k hi hk hlt
 exact hj.dist k i _ _ hlt (List.getElem?_eq_getElem hk) (List.getElem?_eq_getElem hi)
theorem QQ (hj : Gl p) {x y : AG} (h : Ar p x = some y) : Ar p y = some x := by
 obtain ⟨l1, j, l2, e, hk⟩ := Nq h
 have hnd := SU hj
 unfold Bz at hnd
 unfold Ar
 rw [e] at hnd ⊢
 rw [List.flatMap_append, List.flatMap_cons, List.nodup_append] at hnd
 obtain ⟨_, h2, h3⟩ := hnd
 have ha : j.a ∉ l1.flatMap fun j => [j.a, j.b] := fun hm => h3 _ hm _ (by simp) rfl
 have hb : j.b ∉ l1.flatMap fun j => [j.a, j.b] := fun hm => h3 _ hm _ (by simp) rfl
 have hab : j.a ≠ j.b := by
  rw [List.nodup_append] at h2
  have := h2.1
  simpa using this
 rcases hk with ⟨rfl, rfl⟩ | ⟨rfl, rfl⟩
 .rw [MA hb]
  simp [CI, hab]
 rw [MA ha]
 simp [CI]
end
end Go.E
/- Plain Lean: what the sides of a road reach: the document's answer and the program's are one (law SideReaches). No condition. -/
namespace Go.E
open Go
section
variable {p : AK} {n : A5} {pos : List Int} {shut : List Bool} {r : AW}
end
end Go.E
/- The example that the laws of flanks AJ at, reckoned by the kernel. No condition. -/
namespace Go.E
open Go Go.Proofs
set_option maxRecDepth 100000
end Go.E
/- The example that the laws of proofs AJ at, reckoned by the kernel. No condition. -/
namespace Go.E
open Go Go.Proofs
set_option maxRecDepth 100000
theorem WP : IZ = some true := by kernel_rfl
end Go.E
/- Plain Lean: the flank of a road: how its search begins; a road without side ports (law FlankNone). No condition. -/
namespace Go.E
open Go
theorem Hz (l : List Int) (hl : l.length < 1000000) (x : Int) : BA l x = some (decide (x ∈ l)) := by
 unfold BA EZ
 obtain ⟨t, h1, h2⟩ := Gm (l := l) (f := fun a => x == a) hl (step := Ce l x) (by simp [Ce]) (fun i a ha => by
  have := BW ha
  simp only [Ce, BT ha, cond_true, Ad, ha, Option.bind_some, AZ (show i < 1000000000 by omega)]
  cases hb : (x == a) <;> simp)
 rw [h1]
 simp only [Option.bind_some, Option.some.injEq]
 rcases h2 with ⟨rfl, h2⟩ | ⟨a, h0, h2, _⟩
 .have : x ∉ l := fun h => by have := List.find?_eq_none.1 h2 x h; simp at this
  simp [this]
 have hm := List.mem_of_find?_eq_some h2
 have he := List.find?_some h2
 simp only [beq_iff_eq] at he
 subst he
 simp [h0, hm]
theorem MR (l : List AX) (hl : l.length < 1000000) (x : AX) : Bl l x = some (decide (x ∈ l)) := by
 unfold Bl DI
 obtain ⟨t, h1, h2⟩ := Gm (l := l) (f := fun a => x == a) hl (step := CC l x) (by simp [CC]) (fun i a ha => by
  have := BW ha
  simp only [CC, BT ha, cond_true, Ad, ha, Option.bind_some, AZ (show i < 1000000000 by omega)]
  cases hb : (x == a) <;> simp)
 rw [h1]
 simp only [Option.bind_some, Option.some.injEq]
 rcases h2 with ⟨rfl, h2⟩ | ⟨a, h0, h2, _⟩
 .have : x ∉ l := fun h => by have := List.find?_eq_none.1 h2 x h; simp at this
  simp [this]
 have hm := List.mem_of_find?_eq_some h2
 have he := List.find?_some h2
 simp only [beq_iff_eq] at he
 subst he
 simp [h0, hm]
section
variable {p : AK} {n : A5} {r : AW}
theorem Ns (hv : CD p) (hn : Ba p n) (h1 : r.steps.length <= 12) (h2 : r.needs.length <= 1000) : Cn n r = AO (Cb n r r.steps r.needs p) (false, [], [], [], [], (Cf p (CS p r.steps)).reverse) := by
 unfold Cn
 have e1 : BO r.steps = some r.steps := FZ _ (by omega)
 have e2 : Bm r.needs = some r.needs := FZ _ (by omega)
 have e3 : B4 n = some p := by unfold B4; rw [hn.plan, NY p hv.few]; rfl
 simp only [e1, e2, e3, Option.bind_some, Ru hn (⟨r.frm, r.to, r.fin, r.steps, r.needs, [], [], [], false⟩ : AW) (show r.steps.length <= 1000 by omega)]
 have hp := Hy (p := p) r.steps
 generalize hL : CS p r.steps = L at hp
 have key : ∀ (k : Nat) (q : List AG), k <= L.length -> q = (Cf p (L.drop k)).reverse -> AO (EJ n r r.steps r.needs p L) ((k : Int) - 1, q) = AO (Cb n r r.steps r.needs p) (false, [], [], [], [], (Cf p L).reverse) := by
  intro k
  induction k with
  | zero =>
   intro q _ hq
   rw [List.drop_zero] at hq
   subst hq
   cases hr : AO (Cb n r r.steps r.needs p) (false, [], [], [], [], (Cf p L).reverse) with
   | some b =>
    refine CA ?_
    have d : decide ((0 : Int) <= ((0 : Nat) : Int) - 1) = false := by decide
    simp only [EJ, d, cond_false, hr, Option.map_some]
   | none =>
    rw [FU]
    have d : decide ((0 : Int) <= ((0 : Nat) : Int) - 1) = false := by decide
    simp only [EJ, d, cond_false, hr, Option.map_none]
  | succ k ih =>
   intro q hk hq
   obtain ⟨x, hx⟩ : ∃ x, L[k]? = some x := ⟨_, List.getElem?_eq_getElem (by omega)⟩
   have hql : q.length <= 24 := by rw [hq]; unfold Cf; simp; omega
   have hd : L.drop k = x :: L.drop (k + 1) := by
    obtain ⟨h, e⟩ := List.getElem?_eq_some_iff.1 hx
    rw [List.drop_eq_getElem_cons h, e]
   rw [<- ih (q ++ [(Ar p x).getD ⟨0, 0⟩]) (by omega) (by rw [hd, hq]; unfold Cf; simp)]
   refine C0 ?_
   have d : decide ((0 : Int) <= (k : Int)) = true := decide_eq_true (by omega)
   have e : (((k + 1 : Nat) : Int) - 1) = (k : Int) := by omega
   have w : AQ ((k : Int) - 1) = (k : Int) - 1 := by rw [CV] <;> omega
   simp only [EJ, d, cond_true, e, Ad, hx, Option.bind_some, D2 hn, BS (show q.length + [(Ar p x).getD (⟨0, 0⟩ : AG)].length <= 4294967296 by simp; omega), w]
 have w : AQ ((L.length : Int) - 1) = (L.length : Int) - 1 := by rw [CV] <;> omega
 rw [w]
 exact key L.length [] (Nat.le_refl _) (by simp [Cf])
end
end Go.E
/- Plain Lean: the flank of a road: one round of its search; what holds behind it. No condition. -/
namespace Go.E
open Go
section
variable {p : AK} {n : A5} {r : AW}
def C5 (b : Bool) (z : List Int) (e : Int) : Bool × Bool × List Int := if e ∈ z then (true, b, z) else if 12 <= z.length then (false, true, z) else (true, b, z ++ [e])
def Ea (p : AK) (l : List AG) (x : AG) : List AG := match Ar p x with
 | some y => l ++ [y]
 | none => l
abbrev FS := Bool × List (AG × Bool) × List AX × List Int × List Int × List AG
def Na (p : AK) (st : List AV) (nd : List AX) (b : Bool) (vis : List (AG × Bool)) (g : List AX) (z h : List Int) (l : List AG) (x : AG) : FS :=
 if x.elem ∈ st.map (·.elem) \/ BH vis x = true then (b, vis, g, z, h, l)
 else if 0 <= A3 p x /\ p.hard = false then (b, A6 x true vis, g, z, if A3 p x ∈ h then h else h ++ [A3 p x], l)
 else if An p x.elem = 4 then (true, A6 x true vis, g, z, h, l)
 else if An p x.elem = 2 then
  if x.fin = 0 then ((C5 b z x.elem).2.1, A6 x true vis, g, (C5 b z x.elem).2.2, h, if (C5 b z x.elem).1 then Ea p (Ea p l ⟨x.elem, 2⟩) ⟨x.elem, 1⟩ else l)
  else if ⟨x.elem, x.fin⟩ ∈ nd \/ ⟨x.elem, x.fin⟩ ∈ g then ((C5 b z x.elem).2.1, A6 x true vis, g, (C5 b z x.elem).2.2, h, if (C5 b z x.elem).1 then Ea p l ⟨x.elem, 0⟩ else l)
  else (b, A6 x true vis, if ⟨x.elem, AQ (3 - x.fin)⟩ ∈ g then g else g ++ [⟨x.elem, AQ (3 - x.fin)⟩], z, h, l)
 else match D3 p x.elem x.fin 0 with
  | none => (b, A6 x true vis, g, z, h, l)
  | some o => ((C5 b z x.elem).2.1, A6 x true vis, g, (C5 b z x.elem).2.2, h, if (C5 b z x.elem).1 then Ea p l ⟨x.elem, o⟩ else l)
theorem Vh (b : Bool) (z : List Int) (e : Int) (hz : z.length <= 1000) : ((BA z e).bind fun y => bif y then some (true, b, z) else bif decide (12 <= (z.length : Int)) then some (false, true, z) else (Bc z [e]).bind fun y' => some (true, b, y') : Option (Bool × Bool × List Int)) = some (C5 b z e) := by
 rw [Hz z (by omega)]
 unfold C5
 simp only [Option.bind_some]
 by_cases c : e ∈ z
 .rw [decide_eq_true c, if_pos c]; rfl
 rw [decide_eq_false c, if_neg c]
 by_cases d : 12 <= z.length
 .rw [if_pos d, decide_eq_true (show (12 : Int) <= (z.length : Int) by omega)]; rfl
 rw [if_neg d, decide_eq_false (show ¬ (12 : Int) <= (z.length : Int) by omega)]
 simp only [cond_false, BS (show z.length + [e].length <= 4294967296 by simp; omega), Option.bind_some]
theorem MC (hn : Ba p n) (l : List AG) (x : AG) (hl : l.length <= 1000000) : ((BI n x).bind fun y => bif y.2 then (Bc l [y.1]).bind fun y' => some y' else some l : Option (List AG)) = some (Ea p l x) := by
 rw [D2 hn]
 unfold Ea
 cases Ar p x with
 | none => rfl
 | some y => simp only [Option.bind_some, Option.isSome_some, Option.getD_some, cond_true, BS (show l.length + [y].length <= 4294967296 by simp; omega)]
theorem NA (l : List AG) (x : AG) : (Ea p l x).length <= l.length + 1 := by unfold Ea; split <;> simp
theorem PL (hn : Ba p n) (h1 : r.steps.length <= 12) (h2 : r.needs.length <= 1000) (b : Bool) (vis : List (AG × Bool)) (g : List AX) (z h : List Int) (l : List AG) (x : AG) (hg : g.length <= 1000) (hz : z.length <= 1000) (hh : h.length <= 1000) (hl : l.length <= 1000) :
  Cb n r r.steps r.needs p (b, vis, g, z, h, l ++ [x]) = some (.inl (Na p r.steps r.needs b vis g z h l x)) := by
 have d : decide ((0 : Int) < (((l ++ [x]).length : Nat) : Int)) = true := by simp
 have w := LO l x (by omega)
 have i1 := M5 x (rfl : l.length = l.length)
 have s1 := PG x (rfl : l.length = l.length)
 have own := Rt (⟨r.frm, r.to, r.fin, r.steps, r.needs, g, z, h, b⟩ : AW) (show r.steps.length < 1000000 by omega) x.elem
 have tz := Vh b z x.elem hz
 have vb : (Af vis x).getD false = BH vis x := rfl
 unfold Cb Na
 simp only [d, cond_true, w, i1, s1, own, Option.bind_some, vb]
 by_cases c : x.elem ∈ r.steps.map (·.elem) \/ BH vis x = true
 .rw [if_pos c]
  rcases c with c | c
  .rw [decide_eq_true c]; rfl
  rw [c]; cases decide (x.elem ∈ r.steps.map (·.elem)) <;> rfl
 rw [if_neg c]
 have c1 : x.elem ∉ r.steps.map (·.elem) := fun h => c (.inl h)
 have c2 : BH vis x = false := by cases hs : BH vis x with | false => rfl | true => exact absurd (.inr hs) c
 rw [decide_eq_false c1, c2]
 simp only [cond_false, Option.bind_some, HO hn]
 by_cases k1 : 0 <= A3 p x /\ p.hard = false
 .rw [if_pos k1, decide_eq_true k1.1, k1.2]
  simp only [cond_true, Bool.not_false, Option.bind_some, Hz h (show h.length < 1000000 by omega)]
  by_cases m : A3 p x ∈ h
  .rw [decide_eq_true m, if_pos m]; rfl
  rw [decide_eq_false m, if_neg m]
  simp only [Bool.not_false, cond_true, BS (show h.length + [A3 p x].length <= 4294967296 by simp; omega), Option.bind_some]
 rw [if_neg k1]
 have eb : (bif decide (0 <= A3 p x) then some (!p.hard) else some false : Option Bool) = some false := by
  by_cases a : 0 <= A3 p x
  .rw [decide_eq_true a]
   cases hp : p.hard with
   | true => rfl
   | false => exact absurd ⟨a, hp⟩ k1
  rw [decide_eq_false a]; rfl
 simp only [eb, Option.bind_some, cond_false, DD hn]
 by_cases k4 : An p x.elem = 4
 .rw [if_pos k4, k4]; rfl
 rw [if_neg k4]
 have b4 : (An p x.elem == 4) = false := beq_eq_false_iff_ne.2 k4
 simp only [b4, cond_false]
 by_cases k2 : An p x.elem = 2
 .rw [if_pos k2, k2]
  simp only [beq_self_eq_true, cond_true]
  by_cases f0 : x.fin = 0
  .rw [if_pos f0]
   have bf : (x.fin == 0) = true := by simp [f0]
   simp only [bf, cond_true, tz, Option.bind_some]
   have q1 := NA (p := p) l ⟨x.elem, 2⟩
   cases ht : (C5 b z x.elem).1 with
   | true => simp only [cond_true, MC hn l ⟨x.elem, 2⟩ (by omega), Option.bind_some, MC hn (Ea p l ⟨x.elem, 2⟩) ⟨x.elem, 1⟩ (by omega), if_true]
   | false => simp only [cond_false, Option.bind_some, Bool.false_eq_true, if_false]
  rw [if_neg f0]
  have bf : (x.fin == 0) = false := beq_eq_false_iff_ne.2 f0
  simp only [bf, cond_false, MR r.needs (show r.needs.length < 1000000 by omega), MR g (show g.length < 1000000 by omega), Option.bind_some]
  have en : (bif decide ((⟨x.elem, x.fin⟩ : AX) ∈ r.needs) then some true else some (decide ((⟨x.elem, x.fin⟩ : AX) ∈ g)) : Option Bool) = some (decide ((⟨x.elem, x.fin⟩ : AX) ∈ r.needs \/ (⟨x.elem, x.fin⟩ : AX) ∈ g)) := by
   by_cases a : (⟨x.elem, x.fin⟩ : AX) ∈ r.needs
   .simp [a]
   simp [a]
  simp only [en, Option.bind_some]
  by_cases a : (⟨x.elem, x.fin⟩ : AX) ∈ r.needs \/ (⟨x.elem, x.fin⟩ : AX) ∈ g
  .rw [if_pos a, decide_eq_true a]
   simp only [cond_true, tz, Option.bind_some]
   cases ht : (C5 b z x.elem).1 with
   | true => simp only [cond_true, MC hn l ⟨x.elem, 0⟩ (by omega), Option.bind_some, if_true]
   | false => simp only [cond_false, Option.bind_some, Bool.false_eq_true, if_false]
  rw [if_neg a, decide_eq_false a]
  simp only [cond_false]
  by_cases m : (⟨x.elem, AQ (3 - x.fin)⟩ : AX) ∈ g
  .rw [decide_eq_true m, if_pos m]; rfl
  rw [decide_eq_false m, if_neg m]
  simp only [Bool.not_false, cond_true, BS (show g.length + [(⟨x.elem, AQ (3 - x.fin)⟩ : AX)].length <= 4294967296 by simp; omega), Option.bind_some]
 rw [if_neg k2]
 have b2 : (An p x.elem == 2) = false := beq_eq_false_iff_ne.2 k2
 simp only [b2, cond_false, Gj, SP hn, Option.bind_some]
 cases ht : D3 p x.elem x.fin 0 with
 | none => rfl
 | some o =>
  simp only [Option.isSome_some, cond_true, Option.getD_some, tz, Option.bind_some]
  cases htz : (C5 b z x.elem).1 with
  | true => simp only [cond_true, MC hn l ⟨x.elem, o⟩ (by omega), Option.bind_some, if_true]
  | false => simp only [cond_false, Bool.false_eq_true, if_false]
end
end Go.E
/- Plain Lean: the flank of a road: what holds of zone, guards and holds; the search ends (laws FlankAgain, FlankApart). No condition. -/
namespace Go.E
open Go
section
variable {p : AK} {n : A5} {r : AW}
structure QR (p : AK) (st : List AV) (z : List Int) : Prop where
 len : z.length <= 12
 nd : z.Nodup
 own : ∀ e ∈ z, e ∉ st.map (·.elem) /\ An p e ≠ 4
 rng : ∀ e ∈ z, An p e ≠ 0
structure S4 (p : AK) (st : List AV) (g : List AX) : Prop where
 ok : ∀ m ∈ g, m.elem ∉ st.map (·.elem) /\ An p m.elem = 2 /\ (m.pos = 1 \/ m.pos = 2)
 nd : g.Pairwise (fun a b => a.elem ≠ b.elem)
theorem Vi {st : List AV} {b : Bool} {z : List Int} {e : Int} (h : QR p st z) (h1 : e ∉ st.map (·.elem)) (h2 : An p e ≠ 4) (h3 : An p e ≠ 0) : QR p st (C5 b z e).2.2 := by
 unfold C5
 split
 .exact h
 rename_i hm
 split
 .exact h
 rename_i hl
 refine ⟨by simp; omega, ?_, fun a ha => ?_, fun a ha => ?_⟩
 .simp only
  rw [List.nodup_append]
  exact ⟨h.nd, by simp, fun a ha c hc => by simp at hc; subst hc; intro e; subst e; exact hm ha⟩
 .rcases List.mem_append.1 ha with ha | ha
  .exact h.own a ha
  simp at ha; subst ha; exact ⟨h1, h2⟩
 rcases List.mem_append.1 ha with ha | ha
 .exact h.rng a ha
 simp at ha; subst ha; exact h3
theorem I3 {x y : AG} (h : Ar p x = some y) : y ∈ Bz p := KQ h
theorem KU {l : List AG} {x y : AG} (h : y ∈ Ea p l x) : y ∈ l \/ y ∈ Bz p := by
 unfold Ea at h
 cases hx : Ar p x with
 | none => rw [hx] at h; exact .inl h
 | some z =>
  rw [hx] at h
  rcases List.mem_append.1 h with h | h
  .exact .inl h
  simp at h; subst h; exact .inr (I3 hx)
structure FI (p : AK) (st : List AV) (M k : Nat) (vis : List (AG × Bool)) (g : List AX) (z h : List Int) (l : List AG) : Prop where
 zok : QR p st z
 gok : S4 p st g
 hold : p.hard = true -> h = []
 port : ∀ x ∈ l, x ∈ Bz p
 lg : g.length <= k
 lh : h.length <= k
 meas : k + l.length + 3 * MQ p vis <= M
theorem S5 (hv : CD p) {st : List AV} {nd : List AX} {M k : Nat} {b : Bool} {vis : List (AG × Bool)} {g : List AX} {z h : List Int} {l : List AG} {x : AG} (hi : FI p st M k vis g z h (l ++ [x])) {s : FS} (hs : s = Na p st nd b vis g z h l x) :
  FI p st M (k + 1) s.2.1 s.2.2.1 s.2.2.2.1 s.2.2.2.2.1 s.2.2.2.2.2 := by
 have hm := hi.meas
 simp only [List.length_append, List.length_cons, List.length_nil] at hm
 have hx : x ∈ Bz p := hi.port x (by simp)
 have hl : ∀ y ∈ l, y ∈ Bz p := fun y hy => hi.port y (by simp [hy])
 have hlg := hi.lg
 have hlh := hi.lh
 have hul := W3 (p := p) (vis := vis) x
 have hhas : D1 p x = true := by
  obtain ⟨i, hi⟩ := List.mem_iff_getElem?.1 hx
  exact hv.join.has i x hi
 unfold Na at hs
 by_cases c : x.elem ∈ st.map (·.elem) \/ BH vis x = true
 .rw [if_pos c] at hs
  subst hs
  exact ⟨hi.zok, hi.gok, hi.hold, hl, by dsimp only; omega, by dsimp only; omega, by dsimp only; omega⟩
 rw [if_neg c] at hs
 have c1 : x.elem ∉ st.map (·.elem) := fun h => c (.inl h)
 have c2 : BH vis x = false := by cases hs : BH vis x with | false => rfl | true => exact absurd (.inr hs) c
 have hlt := Ug hx c2
 by_cases k1 : 0 <= A3 p x /\ p.hard = false
 .rw [if_pos k1] at hs
  subst hs
  refine ⟨hi.zok, hi.gok, fun hh => (by rw [k1.2] at hh; cases hh), hl, by dsimp only; omega, ?_, by dsimp only; omega⟩
  dsimp only
  split
  .omega
  simp; omega
 rw [if_neg k1] at hs
 by_cases k4 : An p x.elem = 4
 .rw [if_pos k4] at hs
  subst hs
  exact ⟨hi.zok, hi.gok, hi.hold, hl, by dsimp only; omega, by dsimp only; omega, by dsimp only; omega⟩
 rw [if_neg k4] at hs
 have k0 : An p x.elem ≠ 0 := fun e => by
  obtain ⟨f1, f2, f3⟩ := GY hhas
  rw [e] at f3
  simp [Cg] at f3
  omega
 have hz := Vi (b := b) hi.zok c1 k4 k0
 have p1 : ∀ y, (Ea p l y).length <= l.length + 1 := fun y => NA l y
 by_cases k2 : An p x.elem = 2
 .rw [if_pos k2] at hs
  by_cases f0 : x.fin = 0
  .rw [if_pos f0] at hs
   subst hs
   refine ⟨hz, hi.gok, hi.hold, fun y hy => ?_, by dsimp only; omega, by dsimp only; omega, ?_⟩
   .dsimp only at hy
    split at hy
    .rcases KU hy with hy | hy
     .rcases KU hy with hy | hy
      .exact hl y hy
      exact hy
     exact hy
    exact hl y hy
   dsimp only
   have q1 := p1 ⟨x.elem, 2⟩
   have q2 := NA (p := p) (Ea p l ⟨x.elem, 2⟩) ⟨x.elem, 1⟩
   split <;> omega
  rw [if_neg f0] at hs
  by_cases a : (⟨x.elem, x.fin⟩ : AX) ∈ nd \/ (⟨x.elem, x.fin⟩ : AX) ∈ g
  .rw [if_pos a] at hs
   subst hs
   refine ⟨hz, hi.gok, hi.hold, fun y hy => ?_, by dsimp only; omega, by dsimp only; omega, ?_⟩
   .dsimp only at hy
    split at hy
    .rcases KU hy with hy | hy
     .exact hl y hy
     exact hy
    exact hl y hy
   dsimp only
   have q1 := p1 ⟨x.elem, 0⟩
   split <;> omega
  rw [if_neg a] at hs
  subst hs
  obtain ⟨f1, f2, f3⟩ := GY hhas
  rw [k2] at f3
  simp [Cg] at f3
  have hw : AQ (3 - x.fin) = 3 - x.fin := by rw [CV] <;> omega
  refine ⟨hi.zok, ?_, hi.hold, hl, ?_, by dsimp only; omega, by dsimp only; omega⟩
  .dsimp only
   split
   .exact hi.gok
   rename_i hng
   refine ⟨fun m hm => ?_, ?_⟩
   .rcases List.mem_append.1 hm with hm | hm
    .exact hi.gok.ok m hm
    simp at hm; subst hm; exact ⟨c1, k2, by rw [hw]; simp only; omega⟩
   rw [List.pairwise_append]
   refine ⟨hi.gok.nd, by simp, fun m hm q hq => ?_⟩
   simp at hq
   subst hq
   intro he
   simp only at he
   obtain ⟨_, _, hp⟩ := hi.gok.ok m hm
   have e1 : m = ⟨x.elem, m.pos⟩ := by cases m; simp only at he; subst he; rfl
   by_cases e : m.pos = x.fin
   .rw [e] at e1; rw [e1] at hm; exact a (.inr hm)
   have : m.pos = 3 - x.fin := by omega
   rw [this, <- hw] at e1; rw [e1] at hm; exact hng hm
  dsimp only
  split
  .omega
  simp; omega
 rw [if_neg k2] at hs
 cases ht : D3 p x.elem x.fin 0 with
 | none =>
  rw [ht] at hs
  subst hs
  exact ⟨hi.zok, hi.gok, hi.hold, hl, by dsimp only; omega, by dsimp only; omega, by dsimp only; omega⟩
 | some o =>
  rw [ht] at hs
  subst hs
  refine ⟨hz, hi.gok, hi.hold, fun y hy => ?_, by dsimp only; omega, by dsimp only; omega, ?_⟩
  .dsimp only at hy
   split at hy
   .rcases KU hy with hy | hy
    .exact hl y hy
    exact hy
   exact hl y hy
  dsimp only
  have q1 := p1 ⟨x.elem, o⟩
  split <;> omega
theorem SV (hv : CD p) (hn : Ba p n) (h1 : r.steps.length <= 12) (h2 : r.needs.length <= 1000) : ∃ g z h b, Cn n r = some ⟨r.frm, r.to, r.fin, r.steps, r.needs, g, z, h, b⟩ /\ QR p r.steps z /\ S4 p r.steps g /\ (p.hard = true -> h = []) /\ g.length <= 700 /\ h.length <= 700 := by
 have hj := hv.nj
 have hp := Hy (p := p) r.steps
 rw [Ns hv hn h1 h2]
 obtain ⟨R, e1, g, z, h, b, rfl, e2⟩ := EK (step := Cb n r r.steps r.needs p) (Post := fun R => ∃ g z h b, R = (⟨r.frm, r.to, r.fin, r.steps, r.needs, g, z, h, b⟩ : AW) /\ QR p r.steps z /\ S4 p r.steps g /\ (p.hard = true -> h = []) /\ g.length <= 700 /\ h.length <= 700)
  (fun k s => FI p r.steps 700 k s.2.1 s.2.2.1 s.2.2.2.1 s.2.2.2.2.1 s.2.2.2.2.2) 700 (s := (false, [], [], [], [], (Cf p (CS p r.steps)).reverse)) (by
   rintro k ⟨b, vis, g, z, h, l⟩ hi
   have hm := hi.meas
   have hlg := hi.lg
   have hlh := hi.lh
   have hzl := hi.zok.len
   dsimp only at hm hlg hlh hzl hi
   rcases List.eq_nil_or_concat l with rfl | ⟨l', x, rfl⟩
   .left
    exact ⟨_, rfl, g, z, h, b, rfl, hi.zok, hi.gok, hi.hold, by omega, by omega⟩
   .right
    rw [List.concat_eq_append] at hi hm ⊢
    simp only [List.length_append, List.length_cons, List.length_nil] at hm
    refine ⟨by omega, _, PL hn h1 h2 b vis g z h l' x (by omega) (by omega) (by omega) (by omega), S5 hv hi rfl⟩) (by
   refine ⟨⟨by simp, by simp, by simp, by simp⟩, ⟨by simp, by simp⟩, fun _ => rfl, fun y hy => ?_, by simp, by simp, ?_⟩
   .have := List.mem_reverse.1 hy
    obtain ⟨x, hx, rfl⟩ := List.mem_map.1 this
    obtain ⟨y, hy⟩ := J0 hx
    rw [hy]
    exact I3 hy
   have h3 : MQ p [] <= (Bz p).length := List.length_filter_le _ _
   have h4 : (Bz p).length = 2 * p.joins.length := GZ _
   simp only [Cf, List.length_reverse, List.length_map]
   omega)
 exact ⟨g, z, h, b, e1, e2⟩
end
end Go.E
/- Plain Lean: zone, guards and holds of a road's flank (law FlankApart). No condition. -/
namespace Go.E
open Go
section
variable {p : AK} {n : A5} {r : AW}
end
end Go.E
/- Plain Lean: one call of the document's search for the flank, in a clean form. No condition. -/
namespace Go.E
open Go
section
variable {p : AK} {n : A5} {r : AW}
end
end Go.E
/- Plain Lean: the document's search for the flank and the program's loop: one call is as good as one port on the stack. No condition. -/
namespace Go.E
open Go
section
variable {p : AK} {n : A5} {r : AW}
end
end Go.E
/- Plain Lean: the flank of a road: the document's answer and the program's are one (law FlankOfs). No condition. -/
namespace Go.E
open Go
section
variable {p : AK} {n : A5} {r : AW}
end
end Go.E
/- Plain Lean: whether a road is ready, by the program and by the document (law FlankReady). No condition. -/
namespace Go.E
open Go
theorem OG {α β : Type} {l : List α} {step : Int -> Option (Int ⊕ β)} (bad : α -> Bool) (x : β) (fin : Option β) (h0 : step (l.length : Int) = fin.map .inr)
  (h1 : ∀ (i : Nat) a, l[i]? = some a -> step (i : Int) = if bad a = true then some (.inr x) else some (.inl ((i + 1 : Nat) : Int))) : AO step 0 = if l.any bad = true then some x else fin := by
 refine Iz (γ := Unit) l (fun i _ => (i : Int)) (fun _ _ r => if r.any bad = true then some x else fin) (fun _ => ?_) (fun i c a r ha hi => ?_) ()
 .simpa using h0
 rw [h1 i a ha]
 cases hb : bad a with
 | true => left; simp [hb]
 | false => right; exact ⟨(), by simp, by simp [hb]⟩
end Go.E
/- Plain Lean: a road that is ready is so no more when one thing is otherwise (law FlankOne). No condition. -/
namespace Go.E
open Go
section
variable {p : AK} {n : A5} {r : AW}
theorem Vj {n : Int} {k : Nat} (h0 : 0 <= n) (hk : 0 < k) : ∃ j : Nat, j < k /\ RK n (k : Int) = some (j : Int) := by
 obtain ⟨m, rfl⟩ := Int.eq_ofNat_of_zero_le h0
 refine ⟨m % k, Nat.mod_lt _ hk, ?_⟩
 unfold RK
 rw [if_neg (by omega)]
 rfl
end
end Go.E
/- Plain Lean: what a road's flank keeps: nobody comes in but from its zone (law FlankKeeps). No condition. -/
namespace Go.E
open Go
section
variable {p : AK} {n : A5} {r : AW}
def Uh (st : List AV) (vis : List (AG × Bool)) (l : List AG) (y : AG) : Prop := y ∈ l \/ BH vis y = true \/ y.elem ∈ st.map (·.elem)
structure Rv (p : AK) (nd g : List AX) (z h : List Int) (at_ : AG -> Prop) (x : AG) : Prop where
 held : 0 <= A3 p x /\ p.hard = false -> A3 p x ∈ h
 gate : ¬ (0 <= A3 p x /\ p.hard = false) -> An p x.elem ≠ 4
 toe : ¬ (0 <= A3 p x /\ p.hard = false) -> An p x.elem = 2 -> x.fin = 0 -> x.elem ∈ z /\ ∀ o, (o = 1 \/ o = 2) -> ∀ y, Ar p ⟨x.elem, o⟩ = some y -> at_ y
 leg : ¬ (0 <= A3 p x /\ p.hard = false) -> An p x.elem = 2 -> x.fin ≠ 0 -> (x.elem ∈ z /\ ∀ y, Ar p ⟨x.elem, 0⟩ = some y -> at_ y) \/ (⟨x.elem, AQ (3 - x.fin)⟩ : AX) ∈ g
 other : ¬ (0 <= A3 p x /\ p.hard = false) -> An p x.elem ≠ 2 -> ∀ o, D3 p x.elem x.fin 0 = some o -> x.elem ∈ z /\ ∀ y, Ar p ⟨x.elem, o⟩ = some y -> at_ y
theorem Rv.mono {nd g g' : List AX} {z z' h h' : List Int} {a a' : AG -> Prop} {x : AG} (hk : Rv p nd g z h a x) (hg : ∀ m ∈ g, m ∈ g') (hz : ∀ m ∈ z, m ∈ z') (hh : ∀ m ∈ h, m ∈ h') (ha : ∀ y, a y -> a' y) : Rv p nd g' z' h' a' x :=
 ⟨fun c => hh _ (hk.held c), hk.gate, fun c k f => ⟨hz _ (hk.toe c k f).1, fun o ho y hy => ha _ ((hk.toe c k f).2 o ho y hy)⟩,
  fun c k f => (hk.leg c k f).imp (fun q => ⟨hz _ q.1, fun y hy => ha _ (q.2 y hy)⟩) (hg _), fun c k o ho => ⟨hz _ (hk.other c k o ho).1, fun y hy => ha _ ((hk.other c k o ho).2 y hy)⟩⟩
structure KI (p : AK) (st : List AV) (nd : List AX) (b : Bool) (vis : List (AG × Bool)) (g : List AX) (z h : List Int) (l : List AG) : Prop where
 seen : b = false -> ∀ x, BH vis x = true -> Rv p nd g z h (Uh st vis l) x
 init : ∀ x y, x ∈ CS p st -> Ar p x = some y -> Uh st vis l y
theorem KI.next {st : List AV} {nd : List AX} {b b' : Bool} {vis vis' : List (AG × Bool)} {g g' : List AX} {z z' h h' : List Int} {l l' : List AG} {x : AG} (hi : KI p st nd b vis g z h (l ++ [x]))
  (hb : b' = false -> b = false) (hv : ∀ y, BH vis y = true -> BH vis' y = true) (hv2 : ∀ y, BH vis' y = true -> BH vis y = true \/ y = x) (hl : ∀ y ∈ l, y ∈ l') (hx : BH vis' x = true \/ x.elem ∈ st.map (·.elem))
  (hg : ∀ m ∈ g, m ∈ g') (hz : ∀ m ∈ z, m ∈ z') (hh : ∀ m ∈ h, m ∈ h') (hr : b' = false -> BH vis x = false -> BH vis' x = true -> Rv p nd g' z' h' (Uh st vis' l') x) : KI p st nd b' vis' g' z' h' l' := by
 have ha : ∀ y, Uh st vis (l ++ [x]) y -> Uh st vis' l' y := by
  rintro y (hy | hy | hy)
  .rcases List.mem_append.1 hy with hy | hy
   .exact .inl (hl y hy)
   simp at hy; subst hy; exact .inr hx
  .exact .inr (.inl (hv y hy))
  exact .inr (.inr hy)
 refine ⟨fun hb' y hy => ?_, fun y q hy hq => ha q (hi.init y q hy hq)⟩
 cases hs : BH vis y with
 | true => exact (hi.seen (hb hb') y hs).mono hg hz hh ha
 | false =>
  rcases hv2 y hy with hy2 | rfl
  .rw [hs] at hy2; cases hy2
  exact hr hb' hs hy
theorem NB {b : Bool} {z : List Int} {e m : Int} (hm : m ∈ z) : m ∈ (C5 b z e).2.2 := by
 unfold C5
 split
 .exact hm
 split
 .exact hm
 exact List.mem_append_left _ hm
theorem Fc {b : Bool} {z : List Int} {e : Int} (h : (C5 b z e).2.1 = false) : b = false /\ (C5 b z e).1 = true /\ e ∈ (C5 b z e).2.2 := by
 unfold C5 at *
 split
 .rename_i c; rw [if_pos c] at h; exact ⟨h, rfl, c⟩
 rename_i c
 rw [if_neg c] at h
 split
 .rename_i d; rw [if_pos d] at h; cases h
 rename_i d; rw [if_neg d] at h; exact ⟨h, rfl, by simp⟩
theorem I4 {l : List AG} {x y : AG} (h : y ∈ l) : y ∈ Ea p l x := by
 unfold Ea
 split
 .exact List.mem_append_left _ h
 exact h
theorem KV {l : List AG} {x y : AG} (h : Ar p x = some y) : y ∈ Ea p l x := by
 unfold Ea
 rw [h]
 simp
theorem WX {st : List AV} {nd : List AX} {b : Bool} {vis : List (AG × Bool)} {g : List AX} {z h : List Int} {l : List AG} {x : AG} (hi : KI p st nd b vis g z h (l ++ [x])) {s : FS} (hs : s = Na p st nd b vis g z h l x) :
  KI p st nd s.1 s.2.1 s.2.2.1 s.2.2.2.1 s.2.2.2.2.1 s.2.2.2.2.2 := by
 have sx : BH (A6 x true vis) x = true := (Fb vis x x).2 (.inl rfl)
 have s1 : ∀ y, BH vis y = true -> BH (A6 x true vis) y = true := fun y hy => (Fb vis x y).2 (.inr hy)
 have s2 : ∀ y, BH (A6 x true vis) y = true -> BH vis y = true \/ y = x := fun y hy => ((Fb vis x y).1 hy).symm
 unfold Na at hs
 by_cases c : x.elem ∈ st.map (·.elem) \/ BH vis x = true
 .rw [if_pos c] at hs
  subst hs
  exact hi.next (fun h => h) (fun _ h => h) (fun _ h => .inl h) (fun _ h => h) c.symm (fun _ h => h) (fun _ h => h) (fun _ h => h) fun _ hn hy => (by rw [hn] at hy; cases hy)
 rw [if_neg c] at hs
 by_cases k1 : 0 <= A3 p x /\ p.hard = false
 .rw [if_pos k1] at hs
  subst hs
  refine hi.next (fun h => h) s1 s2 (fun _ h => h) (.inl sx) (fun _ h => h) (fun _ h => h) (fun m hm => ?_) fun _ _ _ => ⟨fun _ => ?_, fun q => absurd k1 q, fun q => absurd k1 q, fun q => absurd k1 q, fun q => absurd k1 q⟩
  .dsimp only; split
   .exact hm
   exact List.mem_append_left _ hm
  dsimp only; split
  .assumption
  simp
 rw [if_neg k1] at hs
 by_cases k4 : An p x.elem = 4
 .rw [if_pos k4] at hs
  subst hs
  exact hi.next (fun h => (by cases h)) s1 s2 (fun _ h => h) (.inl sx) (fun _ h => h) (fun _ h => h) (fun _ h => h) fun h => (by cases h)
 rw [if_neg k4] at hs
 by_cases k2 : An p x.elem = 2
 .rw [if_pos k2] at hs
  by_cases f0 : x.fin = 0
  .rw [if_pos f0] at hs
   subst hs
   refine hi.next (fun hb => (Fc hb).1) s1 s2 (fun y hy => ?_) (.inl sx) (fun _ h => h) (fun _ h => NB h) (fun _ h => h) fun hb _ _ => ⟨fun q => absurd q k1, fun _ => k4, fun _ _ _ => ⟨(Fc hb).2.2, fun o ho y hy => .inl ?_⟩, fun _ _ f => absurd f0 f, fun _ q => absurd k2 q⟩
   .dsimp only; split
    .exact I4 (I4 hy)
    exact hy
   dsimp only
   rw [if_pos (Fc hb).2.1]
   rcases ho with rfl | rfl
   .exact KV hy
   exact I4 (KV hy)
  rw [if_neg f0] at hs
  by_cases a : (⟨x.elem, x.fin⟩ : AX) ∈ nd \/ (⟨x.elem, x.fin⟩ : AX) ∈ g
  .rw [if_pos a] at hs
   subst hs
   refine hi.next (fun hb => (Fc hb).1) s1 s2 (fun y hy => ?_) (.inl sx) (fun _ h => h) (fun _ h => NB h) (fun _ h => h) fun hb _ _ => ⟨fun q => absurd q k1, fun _ => k4, fun _ _ f => absurd f f0, fun _ _ _ => .inl ⟨(Fc hb).2.2, fun y hy => .inl ?_⟩, fun _ q => absurd k2 q⟩
   .dsimp only; split
    .exact I4 hy
    exact hy
   dsimp only
   rw [if_pos (Fc hb).2.1]
   exact KV hy
  rw [if_neg a] at hs
  subst hs
  refine hi.next (fun h => h) s1 s2 (fun _ h => h) (.inl sx) (fun m hm => ?_) (fun _ h => h) (fun _ h => h) fun hb _ _ => ⟨fun q => absurd q k1, fun _ => k4, fun _ _ f => absurd f f0, fun _ _ _ => .inr ?_, fun _ q => absurd k2 q⟩
  .dsimp only; split
   .exact hm
   exact List.mem_append_left _ hm
  dsimp only; split
  .assumption
  simp
 rw [if_neg k2] at hs
 cases ht : D3 p x.elem x.fin 0 with
 | none =>
  rw [ht] at hs
  subst hs
  exact hi.next (fun h => h) s1 s2 (fun _ h => h) (.inl sx) (fun _ h => h) (fun _ h => h) (fun _ h => h) fun hb _ _ => ⟨fun q => absurd q k1, fun _ => k4, fun _ q => absurd q k2, fun _ q => absurd q k2, fun _ _ o ho => (by rw [ht] at ho; cases ho)⟩
 | some o =>
  rw [ht] at hs
  subst hs
  refine hi.next (fun hb => (Fc hb).1) s1 s2 (fun y hy => ?_) (.inl sx) (fun _ h => h) (fun _ h => NB h) (fun _ h => h) fun hb _ _ => ⟨fun q => absurd q k1, fun _ => k4, fun _ q => absurd q k2, fun _ q => absurd q k2, fun _ _ o' ho => ?_⟩
  .dsimp only; split
   .exact I4 hy
   exact hy
  rw [ht] at ho
  cases ho
  refine ⟨(Fc hb).2.2, fun y hy => .inl ?_⟩
  dsimp only
  rw [if_pos (Fc hb).2.1]
  exact KV hy
theorem SW (hv : CD p) (hn : Ba p n) (h1 : r.steps.length <= 12) (h2 : r.needs.length <= 1000) : ∃ g z h b, Cn n r = some ⟨r.frm, r.to, r.fin, r.steps, r.needs, g, z, h, b⟩ /\ QR p r.steps z /\ S4 p r.steps g /\ (p.hard = true -> h = []) /\ g.length <= 700 /\ h.length <= 700 /\
  ∃ vis, KI p r.steps r.needs b vis g z h [] := by
 have hj := hv.nj
 have hp := Hy (p := p) r.steps
 rw [Ns hv hn h1 h2]
 obtain ⟨R, e1, g, z, h, b, rfl, e2⟩ := EK (step := Cb n r r.steps r.needs p) (Post := fun R => ∃ g z h b, R = (⟨r.frm, r.to, r.fin, r.steps, r.needs, g, z, h, b⟩ : AW) /\ QR p r.steps z /\ S4 p r.steps g /\ (p.hard = true -> h = []) /\ g.length <= 700 /\ h.length <= 700 /\ ∃ vis, KI p r.steps r.needs b vis g z h [])
  (fun k s => FI p r.steps 700 k s.2.1 s.2.2.1 s.2.2.2.1 s.2.2.2.2.1 s.2.2.2.2.2 /\ KI p r.steps r.needs s.1 s.2.1 s.2.2.1 s.2.2.2.1 s.2.2.2.2.1 s.2.2.2.2.2) 700 (s := (false, [], [], [], [], (Cf p (CS p r.steps)).reverse)) (by
   rintro k ⟨b, vis, g, z, h, l⟩ ⟨hi, hk⟩
   have hm := hi.meas
   have hlg := hi.lg
   have hlh := hi.lh
   have hzl := hi.zok.len
   dsimp only at hm hlg hlh hzl hi hk
   rcases List.eq_nil_or_concat l with rfl | ⟨l', x, rfl⟩
   .left
    exact ⟨_, rfl, g, z, h, b, rfl, hi.zok, hi.gok, hi.hold, by omega, by omega, vis, hk⟩
   .right
    rw [List.concat_eq_append] at hi hm hk ⊢
    simp only [List.length_append, List.length_cons, List.length_nil] at hm
    refine ⟨by omega, _, PL hn h1 h2 b vis g z h l' x (by omega) (by omega) (by omega) (by omega), S5 hv hi rfl, WX hk rfl⟩) (by
   refine ⟨⟨⟨by simp, by simp, by simp, by simp⟩, ⟨by simp, by simp⟩, fun _ => rfl, fun y hy => ?_, by simp, by simp, ?_⟩, fun _ x hx => ?_, fun x y hx hy => .inl ?_⟩
   .have := List.mem_reverse.1 hy
    obtain ⟨x, hx, rfl⟩ := List.mem_map.1 this
    obtain ⟨y, hy⟩ := J0 hx
    rw [hy]
    exact I3 hy
   .have h3 : MQ p [] <= (Bz p).length := List.length_filter_le _ _
    have h4 : (Bz p).length = 2 * p.joins.length := GZ _
    simp only [Cf, List.length_reverse, List.length_map]
    omega
   .simp [BH, Af] at hx
   rw [List.mem_reverse]
   exact List.mem_map.2 ⟨x, hx, by rw [hy]; rfl⟩)
 exact ⟨g, z, h, b, e1, e2⟩
end
end Go.E
/- Plain Lean: whether a road's flank keeps all others out, told without an order (Nb, PM), and the program's answer. No condition. -/
namespace Go.E
open Go
def Eh (nl : List AX) (e : Int) : Option Int := (nl.find? fun m => m.elem == e).map (·.pos)
def Nc (lay : Int -> Option Int) (e : Int) (w : BY) : List Int := if w.pos = 0 \/ lay e = none \/ lay e = some w.pos then [w.out] else []
def Dg (p : AK) (lay : Int -> Option Int) (x : AG) : List Int := (CU p x.elem x.fin).flatMap (Nc lay x.elem)
def Ek (p : AK) (holds : List Int) (x : AG) : Prop := p.hard = false /\ 0 <= A3 p x /\ A3 p x ∈ holds
instance (p : AK) (holds : List Int) (x : AG) : Decidable (Ek p holds x) := by unfold Ek; infer_instance
def H2 (p : AK) (lay : Int -> Option Int) (zone : List Int) (x : AG) : Prop := An p x.elem ≠ 4 /\ (Dg p lay x ≠ [] -> x.elem ∈ zone)
instance (p : AK) (lay : Int -> Option Int) (zone : List Int) (x : AG) : Decidable (H2 p lay zone x) := by unfold H2; infer_instance
inductive ME (p : AK) (lay : Int -> Option Int) (holds : List Int) (st : List AV) : AG -> Prop
 | init {x y : AG} : x ∈ CS p st -> Ar p x = some y -> ME p lay holds st y
 | step {x y : AG} {o : Int} : ME p lay holds st x -> x.elem ∉ st.map (·.elem) -> ¬ Ek p holds x -> o ∈ Dg p lay x -> Ar p ⟨x.elem, o⟩ = some y -> ME p lay holds st y
def Nb (p : AK) (lay : Int -> Option Int) (holds zone : List Int) (st : List AV) : Prop := ∀ x, ME p lay holds st x -> x.elem ∉ st.map (·.elem) -> ¬ Ek p holds x -> H2 p lay zone x
def JP (nl : List AX) : Prop := ∀ a ∈ nl, ∀ b ∈ nl, a.elem = b.elem -> a.pos = b.pos
structure PM (p : AK) (r : AW) : Prop where
 cons : JP (r.needs ++ r.guards)
 guard : ∀ m ∈ r.guards, An p m.elem = 2 /\ (m.pos = 1 \/ m.pos = 2)
 zone : ∀ e ∈ r.zone, 0 <= e /\ e < p.elems.length /\ e ∉ r.steps.map (·.elem)
 hold : ∀ s ∈ r.holds, 0 <= s /\ s < p.signals.length
 kept : Nb p (Eh (r.needs ++ r.guards)) r.holds r.zone r.steps
theorem PN (p : AK) (lay : Int -> Option Int) (x : AG) : (Dg p lay x).length <= 2 := by
 have h1 := HP p x.elem x.fin
 have h2 := HR (Nc lay x.elem) 1 (CU p x.elem x.fin) (fun w _ => by unfold Nc; split <;> simp)
 unfold Dg
 omega
section
variable {p : AK} {n : A5} {r : AW} {lay : Int -> Option Int} {holds zone : List Int} {st : List AV}
theorem ME.in_ports {x : AG} (h : ME p lay holds st x) : x ∈ Bz p := by
 cases h with
 | init _ h2 => exact I3 h2
 | step _ _ _ _ h2 => exact I3 h2
structure GI (p : AK) (lay : Int -> Option Int) (holds zone : List Int) (st : List AV) (V : AG -> Prop) (q : List AG) : Prop where
 arr : ∀ x ∈ q, ME p lay holds st x
 full : ∀ x, V x -> x.elem ∉ st.map (·.elem) -> ¬ Ek p holds x -> H2 p lay zone x /\ ∀ o ∈ Dg p lay x, ∀ y, Ar p ⟨x.elem, o⟩ = some y -> y ∈ q \/ V y
 init : ∀ x y, x ∈ CS p st -> Ar p x = some y -> y ∈ q \/ V y
theorem GI.done {V : AG -> Prop} (h : GI p lay holds zone st V []) : Nb p lay holds zone st := by
 have key : ∀ x, ME p lay holds st x -> V x := by
  intro x hx
  induction hx with
  | init h1 h2 => exact (h.init _ _ h1 h2).resolve_left (by simp)
  | step _ h2 h3 h4 h5 ih => exact ((h.full _ ih h2 h3).2 _ h4 _ h5).resolve_left (by simp)
 exact fun x hx h1 h2 => (h.full x (key x hx) h1 h2).1
theorem GI.bad {V : AG -> Prop} {x : AG} {q : List AG} (h : GI p lay holds zone st V (x :: q)) (h1 : x.elem ∉ st.map (·.elem)) (h2 : ¬ Ek p holds x) (hb : ¬ H2 p lay zone x) : ¬ Nb p lay holds zone st :=
 fun hk => hb (hk x (h.arr x (by simp)) h1 h2)
theorem GI.next {V V' : AG -> Prop} {x : AG} {q q' : List AG} (h : GI p lay holds zone st V (x :: q)) (hV : ∀ y, V y -> V' y) (hx : V' x) (hV2 : ∀ y, V' y -> V y \/ y = x) (hq : ∀ y ∈ q, y ∈ q') (hq2 : ∀ y ∈ q', ME p lay holds st y)
  (hf : ¬ V x -> x.elem ∉ st.map (·.elem) -> ¬ Ek p holds x -> H2 p lay zone x /\ ∀ o ∈ Dg p lay x, ∀ y, Ar p ⟨x.elem, o⟩ = some y -> y ∈ q' \/ V' y) : GI p lay holds zone st V' q' := by
 have keep : ∀ y, y ∈ x :: q \/ V y -> y ∈ q' \/ V' y := by
  rintro y (hy | hy)
  .rcases List.mem_cons.1 hy with rfl | hy
   .exact .inr hx
   exact .inl (hq y hy)
  exact .inr (hV y hy)
 refine ⟨hq2, fun y hy h1 h2 => ?_, fun a b ha hb => keep b (h.init a b ha hb)⟩
 by_cases c : V y
 .have := h.full y c h1 h2
  exact ⟨this.1, fun o ho z hz => keep z (this.2 o ho z hz)⟩
 rcases hV2 y hy with hy2 | rfl
 .exact absurd hy2 c
 exact hf c h1 h2
def I5 (p : AK) (e : Int) (l : List Int) : List AG := l.flatMap fun o => match Ar p ⟨e, o⟩ with
 | some y => [y]
 | none => []
theorem PO {e o : Int} {l : List Int} {y : AG} : y ∈ I5 p e l ↔ ∃ o ∈ l, Ar p ⟨e, o⟩ = some y := by
 unfold I5
 rw [List.mem_flatMap]
 constructor
 .rintro ⟨o, ho, hy⟩
  cases hx : Ar p ⟨e, o⟩ with
  | none => rw [hx] at hy; cases hy
  | some z => rw [hx] at hy; simp at hy; subst hy; exact ⟨o, ho, hx⟩
 rintro ⟨o, ho, hy⟩
 exact ⟨o, ho, by rw [hy]; simp⟩
theorem Tw (e : Int) (l : List Int) : (I5 p e l).length <= l.length := by
 have := HR (fun o => match Ar p ⟨e, o⟩ with | some y => [y] | none => []) 1 l (fun o _ => by split <;> simp)
 unfold I5
 omega
theorem GI.go {V V' : AG -> Prop} {x : AG} {q : List AG} (h : GI p lay holds zone st V (x :: q)) (h1 : x.elem ∉ st.map (·.elem)) (h2 : ¬ Ek p holds x) (hg : H2 p lay zone x) (hV : ∀ y, V' y ↔ V y \/ y = x) : GI p lay holds zone st V' (q ++ I5 p x.elem (Dg p lay x)) := by
 have hx := h.arr x (by simp)
 refine h.next (fun y hy => (hV y).2 (.inl hy)) ((hV x).2 (.inr rfl)) (fun y hy => (hV y).1 hy) (fun y hy => List.mem_append_left _ hy) (fun y hy => ?_) (fun _ _ _ => ⟨hg, fun o ho y hy => .inl (List.mem_append_right _ (PO (o := o) |>.2 ⟨o, ho, hy⟩))⟩)
 rcases List.mem_append.1 hy with hy | hy
 .exact h.arr y (by simp [hy])
 obtain ⟨o, ho, hy⟩ := (PO (o := 0)).1 hy
 exact .step hx h1 h2 ho hy
theorem Vk (hn : Ba p n) (x : AG) (m : List (Int × Int)) (hm : ∀ e, Af m e = lay e) : Fj n x m = some (Dg p lay x) := by
 unfold Fj Dg
 have hl := HP p x.elem x.fin
 simp only [GX hn, Option.bind_some]
 generalize CU p x.elem x.fin = L at hl
 have := KR 0 (l := L) (Nc lay x.elem) (fun w => by unfold Nc; split <;> simp) (by omega) (step := Dx x m L) (fin := fun o => o) (fun o => by simp only [Dx, Bx, cond_false]) (fun i w o ha hb => by
  have := BW ha
  simp only [Dx, BT ha, cond_true, Ad, ha, Option.bind_some, hm, AZ (show i < 1000000000 by omega)]
  unfold Nc
  have ap := BS (show o.length + [w.out].length <= 4294967296 by simp; omega)
  by_cases c : w.pos = 0
  .simp [c, ap]
  have cb : (w.pos == 0) = false := beq_eq_false_iff_ne.2 c
  cases hy : lay x.elem with
  | none => simp [c, cb, ap]
  | some q =>
   by_cases d : w.pos = q
   .subst d; simp [c, cb, ap]
   have db : (w.pos == q) = false := beq_eq_false_iff_ne.2 d
   have de : ¬ q = w.pos := fun h => d h.symm
   simp [c, cb, db, de]) [] (by simp)
 simpa using this
theorem Tx (hn : Ba p n) (s : List AG × List (AG × Bool)) (x : AG) (l : List Int) (hl : l.length <= 10) (q : List AG) (hq : q.length <= 1000) : AO (Cd n s x l) (0, q) = some (.inl (q ++ I5 p x.elem l, A6 x true s.2)) := by
 unfold I5
 exact KR 1000 (l := l) (fun o => match Ar p ⟨x.elem, o⟩ with | some y => [y] | none => []) (fun o => by split <;> simp) (by omega) (step := Cd n s x l) (fin := fun o => (Sum.inl (o, A6 x true s.2) : (List AG × List (AG × Bool)) ⊕ Bool)) (fun o => by simp only [Cd, Bx, cond_false]) (fun i a o ha hb => by
  have := BW ha
  simp only [Cd, BT ha, cond_true, Ad, ha, Option.bind_some, D2 hn, AZ (show i < 1000000000 by omega)]
  cases Ar p ⟨x.elem, a⟩ with
  | none => simp
  | some y => simp [BS (show o.length + [y].length <= 4294967296 by simp; omega)]) q hq
theorem Qh (hn : Ba p n) (h1 : r.steps.length <= 1000) (h2 : r.zone.length <= 1000) (h3 : r.holds.length <= 1000) (y3 : List (Int × Int) × Bool) (hm : ∀ e, Af y3.1 e = lay e) (x : AG) (q : List AG) (hq : q.length <= 1000) (vis : List (AG × Bool)) :
  Bv n r y3 p (x :: q, vis) = some (if BH vis x = true \/ x.elem ∈ r.steps.map (·.elem) \/ Ek p r.holds x then .inl (q, vis) else if H2 p lay r.zone x then .inl (q ++ I5 p x.elem (Dg p lay x), A6 x true vis) else .inr false) := by
 have d : decide ((0 : Int) < (((x :: q).length : Nat) : Int)) = true := by simp
 have e0 : Al (x :: q) 0 = some x := rfl
 have vb : (Af vis x).getD false = BH vis x := rfl
 have es : (bif !p.hard then (BZ n x).bind fun y2018 => bif decide (0 <= y2018) then (BZ n x).bind fun y2021 => (BA r.holds y2021).bind fun y2023 => some y2023 else some false else some false : Option Bool) = some (decide (Ek p r.holds x)) := by
  unfold Ek
  simp only [HO hn, Option.bind_some, Hz r.holds (show r.holds.length < 1000000 by omega)]
  by_cases hh : p.hard = true
  .simp [hh]
  have hf : p.hard = false := by simpa using hh
  by_cases c : 0 <= A3 p x
  .simp [hf, c]
  simp [hf, c]
 have eb : (bif BH vis x then some true else (ER r x.elem).bind fun y2013 => bif y2013 then some true else (bif !p.hard then (BZ n x).bind fun y2018 => bif decide (0 <= y2018) then (BZ n x).bind fun y2021 => (BA r.holds y2021).bind fun y2023 => some y2023 else some false else some false) : Option Bool) = some (decide (BH vis x = true \/ x.elem ∈ r.steps.map (·.elem) \/ Ek p r.holds x)) := by
  rw [es]
  cases hs : BH vis x with
  | true => simp
  | false =>
   simp only [cond_false, Rt r (show r.steps.length < 1000000 by omega), Option.bind_some]
   by_cases c : x.elem ∈ r.steps.map (·.elem)
   .rw [decide_eq_true c]; simp only [cond_true, c, true_or, or_true, decide_true]
   rw [decide_eq_false c]; simp only [cond_false, c, false_or, Bool.false_eq_true]
 unfold Bv
 simp only [d, cond_true, e0, Vg, Option.bind_some, vb]
 rw [eb]
 simp only [Option.bind_some]
 by_cases c : BH vis x = true \/ x.elem ∈ r.steps.map (·.elem) \/ Ek p r.holds x
 .rw [if_pos c, decide_eq_true c]; rfl
 rw [if_neg c, decide_eq_false c]
 simp only [cond_false, DD hn, Option.bind_some, Vk hn x y3.1 hm, Hz r.zone (show r.zone.length < 1000000 by omega)]
 have hb := PN p lay x
 by_cases k4 : An p x.elem = 4
 .have : ¬ H2 p lay r.zone x := fun h => h.1 k4
  rw [if_neg this, k4]; rfl
 have b4 : (An p x.elem == 4) = false := beq_eq_false_iff_ne.2 k4
 simp only [b4, cond_false]
 by_cases hg : H2 p lay r.zone x
 .rw [if_pos hg]
  have : (bif decide ((0 : Int) < ((Dg p lay x).length : Int)) then some (!decide (x.elem ∈ r.zone)) else some false : Option Bool) = some false := by
   by_cases hl : Dg p lay x = []
   .simp [hl]
   have := hg.2 hl
   simp [this]
  rw [this]
  simp only [Option.bind_some, cond_false]
  exact Tx hn _ x _ (by omega) q hq
 rw [if_neg hg]
 have : (bif decide ((0 : Int) < ((Dg p lay x).length : Int)) then some (!decide (x.elem ∈ r.zone)) else some false : Option Bool) = some true := by
  have hl : Dg p lay x ≠ [] := fun h => hg ⟨k4, fun h2 => absurd h h2⟩
  have hz : x.elem ∉ r.zone := fun h => hg ⟨k4, fun _ => h⟩
  have := List.length_pos_iff.2 hl
  have hd : decide ((0 : Int) < ((Dg p lay x).length : Int)) = true := decide_eq_true (by omega)
  rw [hd, decide_eq_false hz]; rfl
 rw [this]; rfl
theorem SX (l : List AV) : ∀ y ∈ Cf p (CS p l), ∃ x ∈ CS p l, Ar p x = some y := fun y hy => by
 obtain ⟨x, hx, rfl⟩ := List.mem_map.1 hy
 obtain ⟨y, h⟩ := J0 hx
 exact ⟨x, hx, by rw [h]; rfl⟩
theorem Ui {l : List AV} {x y : AG} (hx : x ∈ CS p l) (hy : Ar p x = some y) : y ∈ Cf p (CS p l) := List.mem_map.2 ⟨x, hx, by rw [hy]; rfl⟩
theorem Pw (hv : CD p) (hn : Ba p n) (h1 : r.steps.length <= 12) (h2 : r.zone.length <= 1000) (h3 : r.holds.length <= 1000) (y3 : List (Int × Int) × Bool) (hm : ∀ e, Af y3.1 e = lay e) :
  ∃ b, AO (Bv n r y3 p) (Cf p (CS p r.steps), []) = some b /\ (b = true ↔ Nb p lay r.holds r.zone r.steps) := by
 have hj := hv.nj
 have hp := Hy (p := p) r.steps
 have h4 : (Bz p).length = 2 * p.joins.length := GZ _
 refine EK (step := Bv n r y3 p) (Post := fun b => b = true ↔ Nb p lay r.holds r.zone r.steps)
  (fun k s => GI p lay r.holds r.zone r.steps (fun y => BH s.2 y = true \/ y.elem ∈ r.steps.map (·.elem) \/ Ek p r.holds y) s.1 /\ k + s.1.length + 3 * MQ p s.2 <= 700) 700 ?_ ?_
 .rintro k ⟨q, vis⟩ ⟨hi, hms⟩
  dsimp only at hi hms
  cases q with
  | nil => exact .inl ⟨true, by simp [Bv], fun _ => hi.done, fun _ => rfl⟩
  | cons x q =>
   simp only [List.length_cons] at hms
   rw [Qh (lay := lay) hn (by omega) h2 h3 y3 hm x q (by omega) vis]
   by_cases c : BH vis x = true \/ x.elem ∈ r.steps.map (·.elem) \/ Ek p r.holds x
   .rw [if_pos c]
    refine .inr ⟨by omega, _, rfl, hi.next (fun _ h => h) c (fun _ h => .inl h) (fun _ h => h) (fun y hy => hi.arr y (by simp [hy])) fun q => absurd c q, by dsimp only; omega⟩
   rw [if_neg c]
   have c1 : x.elem ∉ r.steps.map (·.elem) := fun h => c (.inr (.inl h))
   have c2 : ¬ Ek p r.holds x := fun h => c (.inr (.inr h))
   have c3 : BH vis x = false := by cases hs : BH vis x with | false => rfl | true => exact absurd (.inl hs) c
   by_cases hg : H2 p lay r.zone x
   .rw [if_pos hg]
    have hx := (hi.arr x (by simp)).in_ports
    have hlt := Ug hx c3
    have hb := PN p lay x
    have hnl := Tw (p := p) x.elem (Dg p lay x)
    refine .inr ⟨by omega, _, rfl, hi.go c1 c2 hg fun y => ?_, by simp only [List.length_append]; omega⟩
    dsimp only
    rw [Fb]
    constructor
    .rintro ((h | h) | h)
     .exact .inr h
     .exact .inl (.inl h)
     exact .inl (.inr h)
    rintro ((h | h) | h)
    .exact .inl (.inr h)
    .exact .inr h
    exact .inl (.inl h)
   rw [if_neg hg]
   exact .inl ⟨false, rfl, fun h => (by cases h), fun h => absurd h (hi.bad c1 c2 hg)⟩
 refine ⟨⟨fun y hy => ?_, fun x hx h1 h2 => ?_, fun x y hx hy => .inl (Ui hx hy)⟩, ?_⟩
 .obtain ⟨x, hx, hy⟩ := SX r.steps y hy
  exact .init hx hy
 .rcases hx with h | h | h
  .simp [BH, Af] at h
  .exact absurd h h1
  exact absurd h h2
 have h3 : MQ p [] <= (Bz p).length := List.length_filter_le _ _
 simp only [Cf, List.length_map]
 omega
end
end Go.E
/- Plain Lean: a road that is guarded keeps all out, whatever way other points lie; what a flank keeps is guarded. No condition. -/
namespace Go.E
open Go
theorem Uj {nl : List AX} {e : Int} : Eh nl e = none ↔ ∀ m ∈ nl, m.elem ≠ e := by
 unfold Eh
 rw [Option.map_eq_none_iff, List.find?_eq_none]
 simp only [beq_iff_eq]
theorem Rx {nl : List AX} {e q : Int} (h : Eh nl e = some q) : (⟨e, q⟩ : AX) ∈ nl := by
 unfold Eh at h
 obtain ⟨m, hm, rfl⟩ := Option.map_eq_some_iff.1 h
 have h1 := List.mem_of_find?_eq_some hm
 have h2 := List.find?_some hm
 simp only [beq_iff_eq] at h2
 subst h2
 exact h1
theorem QT {nl : List AX} (hc : JP nl) {m : AX} (hm : m ∈ nl) : Eh nl m.elem = some m.pos := by
 cases h : Eh nl m.elem with
 | none => exact absurd rfl (Uj.1 h m hm)
 | some q => rw [hc m hm _ (Rx h) rfl]
section
variable {p : AK} {n : A5} {r : AW} {lay : Int -> Option Int} {holds zone : List Int} {st : List AV} {lie : List Int} {shut : List Bool}
end
end Go.E
/- Plain Lean: whether a road is guarded: the program's answer and the document's are one. No condition. -/
namespace Go.E
open Go
def ND (p : AK) (m : AX) : Prop := An p m.elem = 2 /\ (m.pos = 1 \/ m.pos = 2)
instance (p : AK) (m : AX) : Decidable (ND p m) := by unfold ND; infer_instance
theorem QU (l : List AX) (a : AX) (e : Int) : Eh (l ++ [a]) e = match Eh l e with | some q => some q | none => if a.elem = e then some a.pos else none := by
 unfold Eh
 rw [List.find?_append]
 cases h : List.find? (fun m => m.elem == e) l with
 | some q => rfl
 | none =>
  by_cases c : a.elem = e
  .simp [c]
  simp [c]
theorem PP {l : List AX} {a : AX} (h : JP l) (ha : ∀ q, Eh l a.elem = some q -> q = a.pos) : JP (l ++ [a]) := by
 intro x hx y hy e
 rcases List.mem_append.1 hx with hx1 | hx1
 .rcases List.mem_append.1 hy with hy1 | hy1
  .exact h x hx1 y hy1 e
  rw [List.mem_singleton.1 hy1] at e ⊢
  exact ha _ (by rw [<- e]; exact QT h hx1)
 rw [List.mem_singleton.1 hx1] at e ⊢
 rcases List.mem_append.1 hy with hy1 | hy1
 .exact (ha _ (by rw [e]; exact QT h hy1)).symm
 rw [List.mem_singleton.1 hy1]
section
variable {p : AK} {n : A5} {r : AW}
theorem Tz (hn : Ba p n) (r : AW) (h1 : r.needs.length <= 1000) (h2 : r.guards.length <= 1000) :
  ∃ t : List (Int × Int) × Bool, Fi n r = some t /\ ((t.2 = true /\ JP (r.needs ++ r.guards) /\ (∀ m ∈ r.guards, ND p m) /\ ∀ e, Af t.1 e = Eh (r.needs ++ r.guards) e) \/ (t.2 = false /\ ¬ (JP (r.needs ++ r.guards) /\ ∀ m ∈ r.guards, ND p m))) := by
 unfold Fi
 have e1 : Bm r.needs = some r.needs := FZ _ (by omega)
 simp only [e1, Option.bind_some, BS (show r.needs.length + r.guards.length <= 4294967296 by omega)]
 have hg : ∀ i m, r.needs.length <= i -> (r.needs ++ r.guards)[i]? = some m -> m ∈ r.guards := fun i m hi hm => by
  rw [List.getElem?_append_right hi] at hm
  exact List.mem_of_getElem? hm
 have hg2 : ∀ m ∈ r.guards, ∃ i, r.needs.length <= i /\ (r.needs ++ r.guards)[i]? = some m := fun m hm => by
  obtain ⟨i, hi⟩ := List.mem_iff_getElem?.1 hm
  exact ⟨r.needs.length + i, by omega, by rw [List.getElem?_append_right (by omega), Nat.add_sub_cancel_left]; exact hi⟩
 have hlen : (r.needs ++ r.guards).length <= 2000 := by simp; omega
 generalize r.needs ++ r.guards = L at hg hg2 hlen
 refine B8 (l := L) (step := C8 n r L) (Post := fun t => (t.2 = true /\ JP L /\ (∀ m ∈ r.guards, ND p m) /\ ∀ e, Af t.1 e = Eh L e) \/ (t.2 = false /\ ¬ (JP L /\ ∀ m ∈ r.guards, ND p m)))
  (fun i c => JP (L.take i) /\ (∀ k m, r.needs.length <= k -> k < i -> L[k]? = some m -> ND p m) /\ ∀ e, Af c e = Eh (L.take i) e) ?_ ?_ ⟨fun a ha => (by simp at ha), fun k m _ hk => (by omega), fun e => rfl⟩
 .rintro c ⟨i1, i2, i3⟩
  rw [List.take_length] at i1
  refine ⟨(c, true), by simp only [C8, Bx, cond_false], .inl ⟨rfl, i1, fun m hm => ?_, fun e => by rw [i3 e, List.take_length]⟩⟩
  obtain ⟨i, hi, hm⟩ := hg2 m hm
  exact i2 i m hi (BW hm) hm
 rintro i a c ha ⟨i1, i2, i3⟩
 have hi := BW ha
 have w := AZ (show i < 1000000000 by omega)
 have ht : (bif decide ((r.needs.length : Int) <= (i : Int)) then (Bd n a.elem).bind fun y => bif (y != 2) then some true else bif (a.pos != 1) then some (a.pos != 2) else some false else some false : Option Bool) = some (decide (r.needs.length <= i /\ ¬ ND p a)) := by
  unfold ND
  rw [DD hn]
  by_cases c1 : r.needs.length <= i
  .have d1 : decide ((r.needs.length : Int) <= (i : Int)) = true := decide_eq_true (by omega)
   rw [d1]
   simp only [cond_true, Option.bind_some]
   by_cases c2 : An p a.elem = 2
   .have b2 : (An p a.elem != 2) = false := by simp [c2]
    rw [b2]
    by_cases c3 : a.pos = 1
    .simp [c1, c2, c3]
    have b3 : (a.pos != 1) = true := bne_iff_ne.2 c3
    rw [b3]
    by_cases c4 : a.pos = 2
    .simp [c1, c2, c3, c4]
    have b4 : (a.pos != 2) = true := bne_iff_ne.2 c4
    rw [b4]
    simp [c1, c2, c3, c4]
   have b2 : (An p a.elem != 2) = true := bne_iff_ne.2 c2
   rw [b2]
   simp [c1, c2]
  have d1 : decide ((r.needs.length : Int) <= (i : Int)) = false := decide_eq_false (by omega)
  rw [d1]; simp [c1]
 have hs : (bif (Af c a.elem).isSome then some (((Af c a.elem).getD 0) != a.pos) else some false : Option Bool) = some (match Eh (L.take i) a.elem with | some q => q != a.pos | none => false) := by
  rw [i3]
  cases Eh (L.take i) a.elem <;> simp
 have hu : C8 n r L ((i : Int), c) = bif decide (r.needs.length <= i /\ ¬ ND p a) then some (.inr ([], false)) else bif (match Eh (L.take i) a.elem with | some q => q != a.pos | none => false) then some (.inr ([], false)) else some (.inl (((i + 1 : Nat) : Int), A6 a.elem a.pos c)) := by
  simp only [C8, BT ha, cond_true, Ad, ha, Option.bind_some, w]
  rw [ht]
  simp only [Option.bind_some]
  rw [hs]
  simp only [Option.bind_some]
 rw [hu]
 have htake : L.take (i + 1) = L.take i ++ [a] := by
  rw [List.take_add_one, ha]; rfl
 by_cases c1 : r.needs.length <= i /\ ¬ ND p a
 .rw [decide_eq_true c1]
  exact .inl ⟨_, rfl, .inr ⟨rfl, fun h => c1.2 (h.2 a (hg i a c1.1 ha))⟩⟩
 rw [decide_eq_false c1]
 cases hy : Eh (L.take i) a.elem with
 | none =>
  refine .inr ⟨_, rfl, ?_, fun k m hk hk2 hm => ?_, fun e => ?_⟩
  .rw [htake]; exact PP i1 fun q hq => by rw [hy] at hq; cases hq
  .by_cases e : k = i
   .subst e; rw [ha] at hm; cases hm; exact Decidable.byContradiction fun h => c1 ⟨hk, h⟩
   exact i2 k m hk (by omega) hm
  rw [Dp, htake, QU, i3]
  by_cases he : e = a.elem
  .subst he; simp [hy]
  rw [if_neg he]
  have : ¬ a.elem = e := fun h => he h.symm
  rw [if_neg this]
  cases Eh (L.take i) e <;> rfl
 | some q =>
  by_cases hq : q = a.pos
  .subst hq
   have : (a.pos != a.pos) = false := by simp
   simp only [this, cond_false]
   refine .inr ⟨_, rfl, ?_, fun k m hk hk2 hm => ?_, fun e => ?_⟩
   .rw [htake]; exact PP i1 fun q hq => by rw [hy] at hq; cases hq; first | rfl | done
   .by_cases e : k = i
    .subst e; rw [ha] at hm; cases hm; exact Decidable.byContradiction fun h => c1 ⟨hk, h⟩
    exact i2 k m hk (by omega) hm
   rw [Dp, htake, QU, i3]
   by_cases he : e = a.elem
   .subst he; simp [hy]
   rw [if_neg he]
   have : ¬ a.elem = e := fun h => he h.symm
   rw [if_neg this]
   cases Eh (L.take i) e <;> rfl
  have : (q != a.pos) = true := by simp [hq]
  simp only [this, cond_false, cond_true]
  refine .inl ⟨_, rfl, .inr ⟨rfl, fun h => hq ?_⟩⟩
  have h1 := Rx hy
  have h2 : (⟨a.elem, q⟩ : AX) ∈ L := List.mem_of_mem_take h1
  exact h.1 _ h2 a (List.mem_of_getElem? ha) rfl
theorem T0 {β : Type} {L : List AG} (hL : L.length <= 1000) {step : Int × List AG -> Option ((Int × List AG) ⊕ β)} {fin : List AG -> Option β} (h0 : ∀ q, step ((L.length : Int), q) = (fin q).map .inr)
  (h1 : ∀ (i : Nat) x q, L[i]? = some x -> q.length <= 2000 -> step ((i : Int), q) = some (.inl (((i + 1 : Nat) : Int), q ++ [(Ar p x).getD ⟨0, 0⟩]))) : AO step ((0 : Int), []) = fin (Cf p L) := by
 have key : ∀ (rest : List AG) (i : Nat) (q : List AG), L.drop i = rest -> i <= L.length -> q.length = i -> AO step ((i : Int), q) = fin (q ++ Cf p rest) := by
  intro rest
  induction rest with
  | nil =>
   intro i q hd hi hq
   have : i = L.length := by have := congrArg List.length hd; simp at this; omega
   subst this
   rw [FU, h0]
   simp only [Cf, List.map_nil, List.append_nil]
   cases fin q <;> rfl
  | cons a r ih =>
   intro i q hd hi hq
   have hlt : i < L.length := by have := congrArg List.length hd; simp at this; omega
   have ha : L[i]? = some a := by
    have : (L.drop i)[0]? = some a := by rw [hd]; rfl
    simpa using this
   have hr : L.drop (i + 1) = r := by
    have : (L.drop i).drop 1 = r := by rw [hd]; rfl
    rwa [List.drop_drop] at this
   rw [C0 (h1 i a q ha (by omega)), ih (i + 1) _ hr (by omega) (by simp [hq])]
   simp [Cf]
 simpa using key L 0 [] rfl (Nat.zero_le _) rfl
theorem T1 (hn : Ba p n) (y3 : List (Int × Int) × Bool) (h1 : r.steps.length <= 12) : AO (DL n r y3 p (CS p r.steps)) (0, []) = AO (Bv n r y3 p) (Cf p (CS p r.steps), []) := by
 have hp := Hy (p := p) r.steps
 exact T0 (L := CS p r.steps) (by omega) (fin := fun q => AO (Bv n r y3 p) (q, [])) (fun q => by simp only [DL, Bx, cond_false]) (fun i x q hx hq => by
  have := BW hx
  simp only [DL, BT hx, cond_true, Ad, hx, Option.bind_some, D2 hn, BS (show q.length + [(Ar p x).getD (⟨0, 0⟩ : AG)].length <= 4294967296 by simp; omega), AZ (show i < 1000000000 by omega)])
theorem T2 (hv : CD p) (hn : Ba p n) (h1 : r.steps.length <= 12) (h2 : r.needs.length <= 1000) (h3 : r.guards.length <= 1000) (h4 : r.zone.length <= 1000) (h5 : r.holds.length <= 1000) : ∃ b, ES n r = some b /\ (b = true ↔ PM p r) := by
 obtain ⟨t, e1, e2⟩ := Tz hn r h2 h3
 unfold ES
 rw [e1]
 simp only [Option.bind_some]
 rcases e2 with ⟨e2, e3, e4, e5⟩ | ⟨e2, e3⟩
 .rw [e2]
  simp only [Bool.not_true, cond_false]
  have e6 : B4 n = some p := by unfold B4; rw [hn.plan, NY p hv.few]; rfl
  have e7 : EG n = some (p.elems.length : Int) := WW hn
  have e8 : Bg n = some (p.signals.length : Int) := by unfold Bg; rw [hn.plan]
  obtain ⟨b, e9, e10⟩ := Pw (lay := Eh (r.needs ++ r.guards)) hv hn h1 h4 h5 t e5
  have l2 : AO (DM n r t) 0 = if r.holds.any (fun s => !decide (0 <= s /\ s < (p.signals.length : Int))) = true then some false else some b := by
   refine OG (l := r.holds) _ false (some b) ?_ fun i s hs => ?_
   .simp only [DM, Bx, cond_false, e6, Option.bind_some, Ru hn r (show r.steps.length <= 1000 by omega)]
    rw [T1 hn t h1, e9]
   have := BW hs
   simp only [DM, BT hs, cond_true, Ad, hs, Option.bind_some, e8, AZ (show i < 1000000000 by omega)]
   by_cases c1 : s < 0
   .have c2 : ¬ (0 <= s /\ s < (p.signals.length : Int)) := by omega
    simp [c1, c2]
   by_cases c2 : (p.signals.length : Int) <= s
   .have c3 : ¬ (0 <= s /\ s < (p.signals.length : Int)) := by omega
    simp [c1, c2, c3]
   have c3 : (0 <= s /\ s < (p.signals.length : Int)) := by omega
   simp [c1, c2, c3]
  have l1 : AO (DN n r t) 0 = if r.zone.any (fun e => !decide (0 <= e /\ e < (p.elems.length : Int) /\ e ∉ r.steps.map (·.elem))) = true then some false else if r.holds.any (fun s => !decide (0 <= s /\ s < (p.signals.length : Int))) = true then some false else some b := by
   refine OG (l := r.zone) _ false _ ?_ fun i e he => ?_
   .simp only [DN, Bx, cond_false]
    rw [l2]
   have := BW he
   simp only [DN, BT he, cond_true, Ad, he, Option.bind_some, e7, Rt r (show r.steps.length < 1000000 by omega), AZ (show i < 1000000000 by omega)]
   by_cases c1 : e < 0
   .have c3 : ¬ (0 <= e /\ e < (p.elems.length : Int) /\ e ∉ r.steps.map (·.elem)) := by omega
    rw [decide_eq_true c1, decide_eq_false c3]; rfl
   rw [decide_eq_false c1]
   by_cases c2 : (p.elems.length : Int) <= e
   .have c3 : ¬ (0 <= e /\ e < (p.elems.length : Int) /\ e ∉ r.steps.map (·.elem)) := by omega
    rw [decide_eq_true c2, decide_eq_false c3]; rfl
   rw [decide_eq_false c2]
   by_cases c4 : e ∈ r.steps.map (·.elem)
   .have c3 : ¬ (0 <= e /\ e < (p.elems.length : Int) /\ e ∉ r.steps.map (·.elem)) := fun h => h.2.2 c4
    rw [decide_eq_true c4, decide_eq_false c3]; rfl
   have c3 : (0 <= e /\ e < (p.elems.length : Int) /\ e ∉ r.steps.map (·.elem)) := ⟨by omega, by omega, c4⟩
   rw [decide_eq_false c4, decide_eq_true c3]; rfl
  rw [l1]
  by_cases c1 : r.zone.any (fun e => !decide (0 <= e /\ e < (p.elems.length : Int) /\ e ∉ r.steps.map (·.elem))) = true
  .rw [if_pos c1]
   refine ⟨false, rfl, fun h => (by cases h), fun h => ?_⟩
   obtain ⟨e, he, hb⟩ := List.any_eq_true.1 c1
   have := h.zone e he
   simp only [Bool.not_eq_true', decide_eq_false_iff_not] at hb
   exact absurd this hb
  rw [if_neg c1]
  by_cases c2 : r.holds.any (fun s => !decide (0 <= s /\ s < (p.signals.length : Int))) = true
  .rw [if_pos c2]
   refine ⟨false, rfl, fun h => (by cases h), fun h => ?_⟩
   obtain ⟨e, he, hb⟩ := List.any_eq_true.1 c2
   have := h.hold e he
   simp only [Bool.not_eq_true', decide_eq_false_iff_not] at hb
   exact absurd this hb
  rw [if_neg c2]
  refine ⟨b, rfl, fun h => ⟨e3, e4, fun e he => ?_, fun s hs => ?_, e10.1 h⟩, fun h => e10.2 h.kept⟩
  .refine Decidable.byContradiction fun hb => c1 (List.any_eq_true.2 ⟨e, he, ?_⟩)
   simp only [Bool.not_eq_true', decide_eq_false_iff_not]; exact hb
  refine Decidable.byContradiction fun hb => c2 (List.any_eq_true.2 ⟨s, hs, ?_⟩)
  simp only [Bool.not_eq_true', decide_eq_false_iff_not]; exact hb
 rw [e2]
 exact ⟨false, rfl, fun h => (by cases h), fun h => absurd ⟨h.cons, h.guard⟩ e3⟩
end
end Go.E
/- Plain Lean: whether a road is guarded, by the program and by the document (law ProofGuards); what is guarded keeps (law ProofKeeps). No condition. -/
namespace Go.E
open Go
section
variable {p : AK} {n : A5} {r : AW}
theorem Uk {r : AW} (h : H8 p r = true) : (∀ m ∈ r.needs, m.elem ∈ r.steps.map (·.elem) /\ An p m.elem = 2 /\ (m.pos = 1 \/ m.pos = 2)) /\ r.needs.Pairwise (fun a b => a.elem ≠ b.elem) /\ r.steps.length <= 12 := by
 obtain ⟨sg, nd, l, h1, h2, h3, h4, h5, h6, h7⟩ := I1 h
 have := M8 (by simp) (by simp) h4
 rw [h7]
 exact ⟨fun m hm => by simpa using this.1 m hm, this.2.1, h3⟩
end
end Go.E
/- Plain Lean: what is wrong first with a chart of a valid plan: the program's answer and the document's are one (J3). No condition. -/
namespace Go.E
open Go
def B5 {α : Type} (bad : Nat -> α -> Bool) : Nat -> List α -> Option Nat
 | _, [] => none
 | i, a :: r => if bad i a = true then some i else B5 bad (i + 1) r
def LR {β : Type} (o : Option Nat) (x : Nat -> β) (fin : Option β) : Option β := match o with
 | some i => some (x i)
 | none => fin
theorem H3 {α β : Type} {l : List α} {step : Int -> Option (Int ⊕ β)} (bad : Nat -> α -> Bool) (x : Nat -> β) (fin : Option β) (h0 : step (l.length : Int) = fin.map .inr)
  (h1 : ∀ (i : Nat) a, l[i]? = some a -> step (i : Int) = if bad i a = true then some (.inr (x i)) else some (.inl ((i + 1 : Nat) : Int))) : AO step 0 = LR (B5 bad 0 l) x fin := by
 refine Iz (γ := Unit) l (fun i _ => (i : Int)) (fun i _ r => LR (B5 bad i r) x fin) (fun _ => ?_) (fun i c a r ha hi => ?_) ()
 .simpa [B5, LR] using h0
 rw [h1 i a ha]
 by_cases c : bad i a = true
 .left; rw [if_pos c]; unfold B5; rw [if_pos c]; rfl
 right; rw [if_neg c]; exact ⟨(), rfl, by show LR (B5 bad i (a :: r)) x fin = _; rw [B5, if_neg c]⟩
theorem G5 {α : Type} {bad : Nat -> α -> Bool} : ∀ (l : List α) (i : Nat), B5 bad i l = none ↔ ∀ (k : Nat) a, l[k]? = some a -> bad (i + k) a = false
 | [], _ => by simp [B5]
 | a :: r, i => by
  unfold B5
  by_cases c : bad i a = true
  .rw [if_pos c]
   constructor
   .intro h; cases h
   intro h
   have := h 0 a rfl
   rw [Nat.add_zero, c] at this
   cases this
  rw [if_neg c, G5 r (i + 1)]
  constructor
  .intro h k b hb
   cases k with
   | zero => simp at hb; subst hb; simpa using c
   | succ k =>
    have := h k b (by simpa using hb)
    rw [show i + (k + 1) = i + 1 + k by omega]; exact this
  intro h k b hb
  have := h (k + 1) b (by simpa using hb)
  rw [show i + 1 + k = i + (k + 1) by omega]; exact this
theorem Kv {α : Type} {bad : Nat -> α -> Bool} : ∀ (l : List α) (i j : Nat), B5 bad i l = some j ↔ ∃ k a, j = i + k /\ l[k]? = some a /\ bad j a = true /\ ∀ (m : Nat) b, m < k -> l[m]? = some b -> bad (i + m) b = false
 | [], i, j => by simp [B5]
 | a :: r, i, j => by
  unfold B5
  by_cases c : bad i a = true
  .rw [if_pos c]
   constructor
   .intro h
    cases h
    exact ⟨0, a, rfl, rfl, c, fun m b hm => by omega⟩
   rintro ⟨k, b, rfl, h2, h3, h4⟩
   cases k with
   | zero => rfl
   | succ k =>
    have := h4 0 a (by omega) rfl
    rw [Nat.add_zero, c] at this
    cases this
  rw [if_neg c, Kv r (i + 1) j]
  constructor
  .rintro ⟨k, b, h1, h2, h3, h4⟩
   refine ⟨k + 1, b, by omega, by simpa using h2, h3, fun m x hm hx => ?_⟩
   cases m with
   | zero => simp at hx; subst hx; simpa using c
   | succ m =>
    have := h4 m x (by omega) (by simpa using hx)
    rw [show i + (m + 1) = i + 1 + m by omega]; exact this
  rintro ⟨k, b, h1, h2, h3, h4⟩
  cases k with
  | zero =>
   simp at h2
   subst h2
   rw [h1, Nat.add_zero] at h3
   exact absurd h3 c
  | succ k =>
   refine ⟨k, b, by omega, by simpa using h2, h3, fun m x hm hx => ?_⟩
   have := h4 (m + 1) x (by omega) (by simpa using hx)
   rw [show i + 1 + m = i + (m + 1) by omega]; exact this
def Fy (l : List AW) (st : List AV) : Bool := l.any fun x => decide (x.steps = st)
theorem HG {l : List AW} {st : List AV} : Fy l st = true ↔ ∃ x ∈ l, x.steps = st := by
 unfold Fy; simp only [List.any_eq_true, decide_eq_true_eq]
def MF (p : AK) (l : List AW) (s : Nat) : Bool := (F8 p (s : Int)).any fun r => !Fy l r.steps
noncomputable def LS (p : AK) (r : AW) : Bool := @decide (PM p r) (Classical.propDecidable _)
theorem T3 {p : AK} {r : AW} : LS p r = true ↔ PM p r := by unfold LS; exact @decide_eq_true_iff _ (Classical.propDecidable _)
noncomputable def V0 (n : A5) (r : AW) : Bool := ((Cn n r).map (·.bare)).getD false
noncomputable def J3 (p : AK) (n : A5) (l : List AW) : Option (Int × Int) :=
 if 64 < l.length then some (2, -1) else
 LR (B5 (fun _ r => !H8 p r) 0 l) (fun i => (3, (i : Int))) <|
 LR (B5 (fun i r => Fy (l.take i) r.steps) 0 l) (fun i => (4, (i : Int))) <|
 LR (B5 (fun s (_ : Bf) => MF p l s) 0 p.signals) (fun s => (5, (s : Int))) <|
 LR (B5 (fun _ r => !r.bare && !LS p r) 0 l) (fun i => (6, (i : Int))) <|
 LR (B5 (fun _ r => r.bare != V0 n r) 0 l) (fun i => (7, (i : Int))) <| some (0, -1)
structure Ul (r : AW) : Prop where
 needs : r.needs.length <= 1000
 guards : r.guards.length <= 1000
 zone : r.zone.length <= 1000
 holds : r.holds.length <= 1000
section
variable {p : AK} {n : A5}
theorem Um (hv : CD p) {a b : AW} (ha : H8 p a = true) (hb : H8 p b = true) (h : a.steps = b.steps) : a.frm = b.frm := by
 obtain ⟨s1, n1, l1, a1, a2, a3, a4, a5, a6, a7⟩ := I1 ha
 obtain ⟨s2, n2, l2, b1, b2, b3, b4, b5, b6, b7⟩ := I1 hb
 have key : ∀ (sg : Bf) (st : List AV) (nd : List AX), 1 <= st.length -> Br p sg.at_.elem (Ar p sg.at_) [] [] st = some nd -> ∃ q, st.head? = some q /\ Ar p sg.at_ = some ⟨q.elem, q.in_⟩ := fun sg st nd hl hs => by
  cases st with
  | nil => simp at hl
  | cons q r =>
   cases hx : Ar p sg.at_ with
   | none => rw [hx] at hs; simp [Br] at hs
   | some x =>
    rw [hx] at hs
    unfold Br at hs
    split at hs
    .cases hs
    rename_i c
    have e1 : q.elem = x.elem := Decidable.byContradiction fun h => c (.inl h)
    have e2 : q.in_ = x.fin := Decidable.byContradiction fun h => c (.inr (.inl h))
    exact ⟨q, rfl, by rw [e1, e2]⟩
 obtain ⟨q1, c1, c2⟩ := key s1 a.steps n1 a2 a4
 obtain ⟨q2, d1, d2⟩ := key s2 b.steps n2 b2 b4
 rw [h] at c1
 rw [c1] at d1
 cases d1
 have e1 := QQ hv.join c2
 have e2 := QQ hv.join d2
 rw [e1] at e2
 have e3 : s1.at_ = s2.at_ := by injection e2
 obtain ⟨f1, f2⟩ := Un a1
 obtain ⟨g1, g2⟩ := Un b1
 have r1 := hv.sig.reads _ _ f1
 have r2 := hv.sig.reads _ _ g1
 rw [e3, r2] at r1
 rw [f2, g2]; omega
theorem QV (r : AW) (hr : r.steps.length <= 1000) (l : List AW) (hl : l.length < 1000000) (hb : ∀ x ∈ l, x.steps.length <= 1000) {step : Int -> Option (Int ⊕ Int)} (h0 : step (l.length : Int) = some (.inr (-1)))
  (h1 : ∀ (i : Nat) x, l[i]? = some x -> step (i : Int) = bif decide (x.steps = r.steps) then some (.inr (i : Int)) else some (.inl ((i + 1 : Nat) : Int))) : ∃ t, AO step 0 = some t /\ decide (0 <= t) = Fy l r.steps := by
 obtain ⟨t, e1, e2⟩ := Gm (l := l) (f := fun x => decide (x.steps = r.steps)) hl h0 (fun i a ha => by
  rw [h1 i a ha]
  cases decide (a.steps = r.steps) <;> rfl)
 refine ⟨t, e1, ?_⟩
 rcases e2 with ⟨rfl, e2⟩ | ⟨a, e0, e2, e3⟩
 .have : Fy l r.steps = false := by
   rw [<- Bool.not_eq_true, HG]
   rintro ⟨x, hx, he⟩
   have := List.find?_eq_none.1 e2 x hx
   simp [he] at this
  rw [this]; rfl
 have : Fy l r.steps = true := HG.2 ⟨a, List.mem_of_find?_eq_some e2, by simpa using List.find?_some e2⟩
 rw [this]
 exact decide_eq_true e0
theorem Vl (l : List AW) (r : AW) (hr : r.steps.length <= 1000) (hl : l.length <= 1000) (hb : ∀ x ∈ l, x.steps.length <= 1000) : ∃ t, AO (Dv l r) 0 = some t /\ decide (0 <= t) = Fy l r.steps :=
 QV r hr l (by omega) hb (by simp only [Dv, Bx, cond_false]) (fun i x hx => by
  have := BW hx
  have hxl := hb x (List.mem_of_getElem? hx)
  simp only [Dv, BT hx, cond_true, Ad, hx, Option.bind_some, F5, EE, S2 x.steps r.steps (show x.steps.length < 1000000 by omega), AZ (show i < 1000000000 by omega)])
theorem Vm (hn : Ba p n) (hs : p.signals.length <= 1000) (l : List AW) (hl : l.length <= 1000) (hb : ∀ x ∈ l, x.steps.length <= 1000) : EF n l = LR (B5 (fun s (_ : Bf) => MF p l s) 0 p.signals) (fun s => (s : Int)) (some (-1)) := by
 unfold EF
 have e8 : Bg n = some (p.signals.length : Int) := by unfold Bg; rw [hn.plan]
 simp only [e8, Option.bind_some]
 refine H3 (l := p.signals) _ _ _ (by simp only [FW, Bx, cond_false]; rfl) fun s sg hsg => ?_
 have hi := BW hsg
 have hol : (F8 p (s : Int)).length <= 8192 := by have := Pt (p := p) (s : Int); exact this
 simp only [FW, BT hsg, cond_true, PH hn, Option.bind_some]
 have := OG (l := F8 p (s : Int)) (step := Dw l (s : Int) (F8 p (s : Int))) (fun r => !Fy l r.steps) (.inr (s : Int)) (some (.inl ((s + 1 : Nat) : Int))) (by simp only [Dw, Bx, cond_false, AZ (show s < 1000000000 by omega)]; rfl) (fun i r hr => by
  have := BW hr
  obtain ⟨t, t1, t2⟩ := Vl l r (by have := Gc (List.mem_of_getElem? hr); omega) hl hb
  simp only [Dw, BT hr, cond_true, Ad, hr, Option.bind_some, t1, t2, AZ (show i < 1000000000 by omega)]
  cases Fy l r.steps <;> rfl)
 rw [this]
 unfold MF
 cases (F8 p (s : Int)).any fun r => !Fy l r.steps <;> rfl
theorem LU (hv : CD p) (hn : FF p = some (some n, 0)) (hN : Ba p n) (l : List AW) (hl : l.length <= 1000) (hb : ∀ r ∈ l, Ul r) : Cz ⟨p, l⟩ = J3 p n l := by
 unfold Cz J3
 simp only [hn, Option.bind_some, Pg, bne_self_eq_false, cond_false]
 by_cases c : 64 < l.length
 .rw [if_pos c, decide_eq_true (show (64 : Int) < (l.length : Int) by omega)]; rfl
 rw [if_neg c, decide_eq_false (show ¬ (64 : Int) < (l.length : Int) by omega)]
 simp only [cond_false]
 have l4 := H3 (l := l) (step := Dz ⟨p, l⟩ n) (fun _ r => !H8 p r) (fun i => ((3 : Int), (i : Int))) (AO (Cc ⟨p, l⟩ n) 0) (by simp only [Dz, Bx, cond_false]) (fun i r hr => by
  have := BW hr
  have hL := hb r (List.mem_of_getElem? hr)
  simp only [Dz, BT hr, cond_true, Ad, hr, Option.bind_some, Tp hN r hL.needs, AZ (show i < 1000000000 by omega)]
  cases H8 p r <;> rfl)
 rw [l4]
 cases hF : B5 (fun _ r => !H8 p r) 0 l with
 | some i => rfl
 | none =>
  have hI : ∀ r ∈ l, H8 p r = true := fun r hr => by
   obtain ⟨i, hi⟩ := List.mem_iff_getElem?.1 hr
   simpa using (G5 l 0).1 hF i r hi
  have h12 : ∀ r ∈ l, r.steps.length <= 12 := fun r hr => (Uk (hI r hr)).2.2
  show AO (Cc ⟨p, l⟩ n) 0 = _
  have l5 := H3 (l := l) (step := Cc ⟨p, l⟩ n) (fun i r => Fy (l.take i) r.steps) (fun i => ((4 : Int), (i : Int))) ((EF n l).bind fun y => bif decide (0 <= y) then some (5, y) else AO (DA ⟨p, l⟩ n) 0) (by simp only [Cc, Bx, cond_false]) (fun i r hr => by
   have hi := BW hr
   have hL := h12 r (List.mem_of_getElem? hr)
   obtain ⟨t, t1, t2⟩ := QV r (by omega) (l.take i) (by simp; omega) (fun x hx => by have := h12 x (List.mem_of_mem_take hx); omega) (step := Dy r (l.take i)) (by simp only [Dy, Bx, cond_false]) (fun k x hx => by
    have hk := BW hx
    have hxl := h12 x (List.mem_of_mem_take (List.mem_of_getElem? hx))
    simp only [List.length_take] at hk
    simp only [Dy, BT hx, cond_true, Ad, hx, Option.bind_some, EP, EE, S2 x.steps r.steps (show x.steps.length < 1000000 by omega), AZ (show k < 1000000000 by omega)])
   simp only [Cc, BT hr, cond_true, Ad, hr, Option.bind_some, Ga l i (by omega), t1, t2, AZ (show i < 1000000000 by omega)]
   cases Fy (l.take i) r.steps <;> rfl)
  rw [l5]
  refine congrArg (LR (B5 (fun i r => Fy (l.take i) r.steps) 0 l) (fun i => ((4 : Int), (i : Int)))) ?_
  rw [Vm hN (by have := hv.ns; omega) l hl (fun x hx => by have := h12 x hx; omega)]
  cases hS : B5 (fun s (_ : Bf) => MF p l s) 0 p.signals with
  | some s =>
   simp only [LR, Option.bind_some, decide_eq_true (show (0 : Int) <= (s : Int) by omega), cond_true]
  | none =>
   simp only [LR, Option.bind_some, show decide ((0 : Int) <= -1) = false from rfl, cond_false]
   have l7 := H3 (l := l) (step := DA ⟨p, l⟩ n) (fun _ r => !r.bare && !LS p r) (fun i => ((6 : Int), (i : Int))) (AO (C9 ⟨p, l⟩ n) 0) (by simp only [DA, Bx, cond_false]) (fun i r hr => by
    have hi := BW hr
    have hm := List.mem_of_getElem? hr
    have hL := hb r hm
    obtain ⟨b, b1, b2⟩ := T2 (r := r) hv hN (h12 r hm) hL.needs hL.guards hL.zone hL.holds
    have hbb : b = LS p r := Bool.eq_iff_iff.2 (b2.trans T3.symm)
    simp only [DA, BT hr, cond_true, Ad, hr, Option.bind_some, b1, hbb, AZ (show i < 1000000000 by omega)]
    cases r.bare <;> cases LS p r <;> rfl)
   have l8 := H3 (l := l) (step := C9 ⟨p, l⟩ n) (fun _ r => r.bare != V0 n r) (fun i => ((7 : Int), (i : Int))) (some (0, -1)) (by simp only [C9, Bx, cond_false]; rfl) (fun i r hr => by
    have hi := BW hr
    have hm := List.mem_of_getElem? hr
    have hL := hb r hm
    obtain ⟨g, z, h, bb, R2, _⟩ := SV (r := r) hv hN (h12 r hm) hL.needs
    have hfl : V0 n r = bb := by unfold V0; rw [R2]; rfl
    simp only [C9, BT hr, cond_true, Ad, hr, Option.bind_some, R2, hfl, AZ (show i < 1000000000 by omega)]
    cases r.bare <;> cases bb <;> rfl)
   rw [l7, l8]
   rfl
end
end Go.E
/- Plain Lean: the chart of a valid plan with one thing of one road turned (law ProofTurned). No condition. -/
namespace Go.E
open Go
section
variable {p : AK} {n : A5}
noncomputable def Ie (n : A5) (r : AW) : AW := (Cn n r).getD r
structure S6 (p : AK) (r q : AW) : Prop where
 frm : q.frm = r.frm
 to : q.to = r.to
 fin : q.fin = r.fin
 steps : q.steps = r.steps
 needs : q.needs = r.needs
 zone : QR p r.steps q.zone
 guards : S4 p r.steps q.guards
 hard : p.hard = true -> q.holds = []
 lg : q.guards.length <= 700
 lh : q.holds.length <= 700
 keep : ∃ vis, KI p r.steps r.needs q.bare vis q.guards q.zone q.holds []
theorem JS (hv : CD p) (hn : Ba p n) {r : AW} (h1 : r.steps.length <= 12) (h2 : r.needs.length <= 1000) : Cn n r = some (Ie n r) /\ S6 p r (Ie n r) := by
 obtain ⟨g, z, h, b, e1, e2, e3, e4, e5, e6, e7⟩ := SW hv hn h1 h2
 have hR2 : Ie n r = ⟨r.frm, r.to, r.fin, r.steps, r.needs, g, z, h, b⟩ := by unfold Ie; rw [e1]; rfl
 refine ⟨by rw [hR2, e1], ?_⟩
 rw [hR2]
 exact ⟨rfl, rfl, rfl, rfl, rfl, e2, e3, e4, e5, e6, e7⟩
theorem W7 {α : Type} (l m : List α) (x y : α) : A1 (l ++ x :: m) (l.length : Int) y = l ++ y :: m := by
 show (l ++ x :: m).set (l.length : Int).toNat y = _
 rw [Int.toNat_natCast]
 simp
theorem Uo {l : List AW} (f : AW -> AW) {β : Type} {step : Int × List AW -> Option ((Int × List AW) ⊕ β)} {fin : List AW -> β} (hl : l.length <= 1000)
  (h0 : ∀ c, c.length = l.length -> step ((l.length : Int), c) = some (.inr (fin c))) (h1 : ∀ (i : Nat) r c, l[i]? = some r -> c[i]? = some r -> c.length = l.length -> step ((i : Int), c) = some (.inl (((i + 1 : Nat) : Int), A1 c (i : Int) (f r)))) : AO step ((0 : Int), l) = some (fin (l.map f)) := by
 obtain ⟨b, h2, rfl⟩ := B8 (l := l) (step := step) (Post := fun b => b = fin (l.map f)) (fun i c => c = (l.take i).map f ++ l.drop i) (c := l)
  (fun c hc => ⟨fin c, h0 c (by rw [hc]; simp), by rw [hc, List.take_length, List.drop_length, List.append_nil]⟩)
  (fun i r c hr hc => by
   have hi := BW hr
   have hd : l.drop i = r :: l.drop (i + 1) := by
    obtain ⟨h, e⟩ := List.getElem?_eq_some_iff.1 hr
    rw [List.drop_eq_getElem_cons h, e]
   have hlen : ((l.take i).map f).length = i := by simp; omega
   have hci : c[i]? = some r := by
    rw [hc, hd, List.getElem?_append_right (by omega), hlen]; simp
   refine .inr ⟨A1 c (i : Int) (f r), h1 i r c hr hci (by rw [hc]; simp; omega), ?_⟩
   have := W7 ((l.take i).map f) (l.drop (i + 1)) r (f r)
   rw [hlen] at this
   rw [hc, hd, this, List.take_add_one, hr]
   simp)
  (by simp)
 exact h2
end
end Go.E
/- Plain Lean: what is built is fine (law ProofBuilt); what a chart without one of its roads lacks, and with one of them twice (law ProofLacks). No condition. -/
namespace Go.E
open Go
section
variable {p : AK} {n : A5}
theorem Ry (hv : CD p) (hn : Ba p n) {s : Int} {r : AW} (hr : r ∈ F8 p s) : H8 p (Ie n r) = true := by
 obtain ⟨_, f⟩ := JS hv hn (Gc hr) (show r.needs.length <= 1000 by have := (DZ hr).2.2.2.2.2.2.2.2; omega)
 have := (DZ hr).1
 unfold H8 at this ⊢
 rw [f.frm, f.steps, f.fin, f.to, f.needs]
 exact this
theorem NE (hv : CD p) {s s' : Int} {a b : AW} (ha : a ∈ F8 p s) (hb : b ∈ F8 p s') (h : a.steps = b.steps) : a = b /\ s = s' := by
 have fa := DZ ha
 have fb := DZ hb
 have e := Um hv fa.1 fb.1 h
 obtain ⟨s1, n1, l1, a1, a2, a3, a4, a5, a6, a7⟩ := I1 fa.1
 obtain ⟨s2, n2, l2, b1, b2, b3, b4, b5, b6, b7⟩ := I1 fb.1
 rw [e, b1] at a1
 have e1 : s2 = s1 := Option.some.inj a1
 subst e1
 rw [h, b4] at a4
 have e2 : n2 = n1 := Option.some.inj a4
 rw [h, b5] at a5
 have e3 : l2 = l1 := Option.some.inj a5
 subst e3
 have e4 : a.fin = b.fin /\ a.to = b.to := by
  unfold Ic at a6 b6
  split at a6
  .rename_i k
   rw [if_pos k] at b6
   simp only [decide_eq_true_eq] at a6 b6
   exact ⟨by rw [a6.1, b6.1], by rw [a6.2, b6.2]⟩
  rename_i k
  rw [if_neg k] at b6
  split at a6
  .rename_i k2
   rw [if_pos k2] at b6
   simp only [decide_eq_true_eq] at a6 b6
   exact ⟨by rw [a6.1, b6.1], by rw [a6.2, b6.2]⟩
  rename_i k2
  rw [if_neg k2] at b6
  simp only [Bool.and_eq_true, decide_eq_true_eq] at a6 b6
  exact ⟨by rw [a6.2.1, b6.2.1], by rw [a6.2.2, b6.2.2]⟩
 refine ⟨VW.2 ⟨e, e4.2, e4.1, h, by rw [a7, b7, e2], by rw [fa.2.2.1, fb.2.2.1], by rw [fa.2.2.2.1, fb.2.2.2.1], by rw [fa.2.2.2.2.1, fb.2.2.2.2.1], by rw [fa.2.2.2.2.2.1, fb.2.2.2.2.2.1]⟩, ?_⟩
 rw [<- fa.2.1, <- fb.2.1, e]
theorem HS (hv : CD p) : ∀ i : Nat, (JD p i).Nodup /\ ∀ r ∈ JD p i, ∃ s : Nat, s < i /\ r ∈ F8 p (s : Int)
 | 0 => ⟨by simp [JD], by simp [JD]⟩
 | i + 1 => by
  obtain ⟨h1, h2⟩ := HS hv i
  rw [M6]
  refine ⟨List.nodup_append.2 ⟨h1, Ue _, fun a ha b hb e => ?_⟩, fun r hr => ?_⟩
  .obtain ⟨s, hs, hm⟩ := h2 a ha
   have := (NE hv hm hb (by rw [e])).2
   omega
  rcases List.mem_append.1 hr with hr | hr
  .obtain ⟨s, hs, hm⟩ := h2 r hr
   exact ⟨s, by omega, hm⟩
  exact ⟨i, by omega, hr⟩
theorem W8 {s : Nat} {r : AW} (hs : s < p.signals.length) (hr : r ∈ F8 p (s : Int)) : r ∈ Gb p := by
 unfold Gb JD
 exact List.mem_flatMap.2 ⟨s, List.mem_range.2 hs, hr⟩
structure H4 (p : AK) (n : A5) (l : List AW) : Prop where
 eq : l = (Gb p).map (Ie n)
 len : l.length <= 64
theorem H4.road (hv : CD p) (hn : Ba p n) {l : List AW} (hb : H4 p n l) {q : AW} (hq : q ∈ l) : ∃ (s : Nat) (r : AW), s < p.signals.length /\ r ∈ F8 p (s : Int) /\ q = Ie n r /\ S6 p r q /\ q.frm = (s : Int) := by
 rw [hb.eq] at hq
 obtain ⟨r, hr, rfl⟩ := List.mem_map.1 hq
 obtain ⟨s, hs, hm⟩ := (HS hv p.signals.length).2 r hr
 obtain ⟨_, f⟩ := JS hv hn (Gc hm) (show r.needs.length <= 1000 by have := (DZ hm).2.2.2.2.2.2.2.2; omega)
 exact ⟨s, r, hs, hm, rfl, f, by rw [f.frm]; exact (DZ hm).2.1⟩
theorem H4.light (hv : CD p) (hn : Ba p n) {l : List AW} (hb : H4 p n l) {q : AW} (hq : q ∈ l) : Ul q := by
 obtain ⟨s, r, _, hm, rfl, f, _⟩ := hb.road hv hn hq
 have h2 := (DZ hm).2.2.2.2.2.2.2.2
 have hz := f.zone.len; have hg := f.lg; have hh := f.lh
 exact ⟨by rw [f.needs]; omega, by omega, by omega, by omega⟩
theorem H4.inj (hv : CD p) (hn : Ba p n) {l : List AW} (hb : H4 p n l) {i k : Nat} {a b : AW} (ha : l[i]? = some a) (hk : l[k]? = some b) (h : a.steps = b.steps) : i = k := by
 rw [hb.eq, List.getElem?_map] at ha hk
 obtain ⟨x, hx, rfl⟩ := Option.map_eq_some_iff.1 ha
 obtain ⟨y, hy, rfl⟩ := Option.map_eq_some_iff.1 hk
 obtain ⟨s, hs, hm⟩ := (HS hv p.signals.length).2 x (List.mem_of_getElem? hx)
 obtain ⟨s', hs', hm'⟩ := (HS hv p.signals.length).2 y (List.mem_of_getElem? hy)
 obtain ⟨_, f⟩ := JS hv hn (Gc hm) (show x.needs.length <= 1000 by have := (DZ hm).2.2.2.2.2.2.2.2; omega)
 obtain ⟨_, f'⟩ := JS hv hn (Gc hm') (show y.needs.length <= 1000 by have := (DZ hm').2.2.2.2.2.2.2.2; omega)
 rw [f.steps, f'.steps] at h
 have e := (NE hv hm hm' h).1
 subst e
 have hnd := (HS hv p.signals.length).1
 obtain ⟨h1, h2⟩ := List.getElem?_eq_some_iff.1 hx
 obtain ⟨h3, h4⟩ := List.getElem?_eq_some_iff.1 hy
 exact (List.getElem_inj hnd).1 (h2.trans h4.symm)
theorem H4.have (hv : CD p) (hn : Ba p n) {l : List AW} (hb : H4 p n l) {s : Nat} {r : AW} (hs : s < p.signals.length) (hr : r ∈ F8 p (s : Int)) : ∃ q ∈ l, q = Ie n r /\ q.steps = r.steps := by
 obtain ⟨_, f⟩ := JS hv hn (Gc hr) (show r.needs.length <= 1000 by have := (DZ hr).2.2.2.2.2.2.2.2; omega)
 exact ⟨_, by rw [hb.eq]; exact List.mem_map.2 ⟨r, W8 hs hr, rfl⟩, rfl, f.steps⟩
theorem Vn (hv : CD p) (hN : FF p = some (some n, 0)) (hn : Ba p n) : ∃ c e, ED p = some (c, e) /\ ((e = 0 /\ c.plan = p /\ H4 p n c.roads) \/ e = 3) := by
 unfold ED
 have e6 : B4 n = some p := by unfold B4; rw [hn.plan, NY p hv.few]; rfl
 simp only [hN, Option.bind_some, Pg, bne_self_eq_false, cond_false, SQ hn hv.ns]
 by_cases c : 64 < (Gb p).length
 .have : M7 p = ([], 3) := by unfold M7; rw [if_pos c]
  rw [this]
  exact ⟨_, 3, rfl, .inr rfl⟩
 have ha : M7 p = (Gb p, 0) := by unfold M7; rw [if_neg c]
 rw [ha]
 simp only [bne_self_eq_false, cond_false]
 refine ⟨⟨p, (Gb p).map (Ie n)⟩, 0, ?_, .inl ⟨rfl, rfl, rfl, by simp; omega⟩⟩
 exact Uo (l := Gb p) (Ie n) (step := Du n (Gb p, 0)) (fin := fun l => ((⟨p, l⟩ : DR), (0 : Int))) (by omega) (fun q hq => by
  simp only [Du, Bx, cond_false, e6, Option.bind_some]; rfl) (fun i r q hr hq hlen => by
  have hi := BW hr
  obtain ⟨s, hs, hm⟩ := (HS hv p.signals.length).2 r (List.mem_of_getElem? hr)
  have f2 := (JS hv hn (r := r) (Gc hm) (by have := (DZ hm).2.2.2.2.2.2.2.2; omega)).1
  simp only [Du, BT hr, cond_true, Ad, hq, Option.bind_some, f2, AZ (show i < 1000000000 by omega)])
theorem NF {α : Type} {l : List α} {j : Nat} {x : α} (h : x ∈ l.eraseIdx j) : ∃ i, i ≠ j /\ l[i]? = some x := by
 obtain ⟨i, hi⟩ := List.mem_iff_getElem?.1 h
 rw [List.getElem?_eraseIdx] at hi
 split at hi
 .exact ⟨i, by omega, hi⟩
 exact ⟨i + 1, by omega, hi⟩
theorem Uq {α : Type} {l : List α} {i j : Nat} {x : α} (h : l[i]? = some x) (hn : i ≠ j) : x ∈ l.eraseIdx j := by
 rcases Nat.lt_or_ge i j with c | c
 .refine List.mem_iff_getElem?.2 ⟨i, ?_⟩
  rw [List.getElem?_eraseIdx, if_pos c]; exact h
 refine List.mem_iff_getElem?.2 ⟨i - 1, ?_⟩
 rw [List.getElem?_eraseIdx, if_neg (by omega)]
 rw [show i - 1 + 1 = i by omega]; exact h
theorem Nt {α : Type} : ∀ (l : List α) (j : Nat), l.take j ++ l.drop (j + 1) = l.eraseIdx j
 | [], j => by simp
 | a :: l, 0 => by simp
 | a :: l, j + 1 => by simp [Nt l j]
theorem SY (hv : CD p) (hn : Ba p n) {l : List AW} (hb : H4 p n l) {j : Nat} {q : AW} (hq : l[j]? = some q) : J3 p n (l.eraseIdx j) = some (5, q.frm) := by
 have hl := hb.len
 obtain ⟨s0, r0, hs0, hm0, e0, f0, g0⟩ := hb.road hv hn (List.mem_of_getElem? hq)
 have hlen : (l.eraseIdx j).length <= 64 := by
  have := List.length_eraseIdx_le l j
  omega
 unfold J3
 rw [if_neg (by omega)]
 have c1 : B5 (fun _ r => !H8 p r) 0 (l.eraseIdx j) = none := (G5 _ 0).2 fun k a ha => by
  obtain ⟨i, _, hi⟩ := NF (List.mem_of_getElem? ha)
  obtain ⟨s, r, _, hm, rfl, _, _⟩ := hb.road hv hn (List.mem_of_getElem? hi)
  simp [Ry hv hn hm]
 have c2 : B5 (fun i r => Fy ((l.eraseIdx j).take i) r.steps) 0 (l.eraseIdx j) = none := (G5 _ 0).2 fun k a ha => by
  rw [Nat.zero_add, <- Bool.not_eq_true, HG]
  rintro ⟨x, hx, he⟩
  obtain ⟨i, hi, hx2⟩ := Jz hx
  rw [List.getElem?_eraseIdx] at hx2 ha
  have key : ∀ (u w : Nat), l[u]? = some x -> l[w]? = some a -> u = w := fun u w h1 h2 => hb.inj hv hn h1 h2 he
  split at hx2
  .split at ha
   .have := key _ _ hx2 ha; omega
   have := key _ _ hx2 ha; omega
  split at ha
  .have := key _ _ hx2 ha; omega
  have := key _ _ hx2 ha; omega
 have c3 : B5 (fun s (_ : Bf) => MF p (l.eraseIdx j) s) 0 p.signals = some s0 := by
  refine (Kv p.signals 0 s0).2 ⟨s0, p.signals[s0], by omega, List.getElem?_eq_getElem hs0, ?_, fun m sg hm hsg => ?_⟩
  .unfold MF
   refine List.any_eq_true.2 ⟨r0, hm0, ?_⟩
   have : Fy (l.eraseIdx j) r0.steps = false := by
    rw [<- Bool.not_eq_true, HG]
    rintro ⟨x, hx, he⟩
    obtain ⟨i, hi, hx2⟩ := NF hx
    exact hi (hb.inj hv hn hx2 hq (by rw [he, f0.steps]))
   simp [this]
  rw [Nat.zero_add]
  unfold MF
  refine List.any_eq_false.2 fun r hr => ?_
  obtain ⟨x, hx, ex, hs⟩ := hb.have hv hn (BW hsg) hr
  obtain ⟨i, hi⟩ := List.mem_iff_getElem?.1 hx
  have hij : i ≠ j := fun e => by
   subst e
   rw [hq] at hi
   cases hi
   rw [f0.steps] at hs
   have := (NE hv hm0 hr hs).2
   omega
  have : Fy (l.eraseIdx j) r.steps = true := HG.2 ⟨x, Uq hi hij, hs⟩
  simp [this]
 rw [c1, c2, c3, g0]
 rfl
theorem SZ (hv : CD p) (hn : Ba p n) {l : List AW} (hb : H4 p n l) {j : Nat} {q : AW} (hq : l[j]? = some q) : J3 p n (l ++ [q]) = some (if 64 < (l ++ [q]).length then (2, -1) else (4, (l.length : Int))) := by
 have hl := hb.len
 unfold J3
 by_cases c : 64 < (l ++ [q]).length
 .rw [if_pos c, if_pos c]
 rw [if_neg c, if_neg c]
 have c1 : B5 (fun _ r => !H8 p r) 0 (l ++ [q]) = none := (G5 _ 0).2 fun k a ha => by
  have ha2 : a ∈ l := by
   rcases List.mem_append.1 (List.mem_of_getElem? ha) with h | h
   .exact h
   rw [List.mem_singleton.1 h]; exact List.mem_of_getElem? hq
  obtain ⟨s, r, _, hm, rfl, _, _⟩ := hb.road hv hn ha2
  simp [Ry hv hn hm]
 have c2 : B5 (fun i r => Fy ((l ++ [q]).take i) r.steps) 0 (l ++ [q]) = some l.length := by
  refine (Kv _ 0 _).2 ⟨l.length, q, by omega, by simp, ?_, fun m b hm hbm => ?_⟩
  .rw [HG]
   exact ⟨q, by rw [List.take_left']; exact List.mem_of_getElem? hq; rfl, rfl⟩
  rw [Nat.zero_add, <- Bool.not_eq_true, HG]
  rintro ⟨x, hx, he⟩
  obtain ⟨i, hi, hx2⟩ := Jz hx
  rw [List.getElem?_append_left (by omega)] at hx2 hbm
  have := hb.inj hv hn hx2 hbm he
  omega
 rw [c1, c2]
 rfl
theorem PQ (p : AK) (k : Int) (hk : (Lit.int .u8 k).wf = true) : FX p k = some true := by
 unfold FX
 simp only [WP, Option.bind_some, Bool.not_true, cond_false]
 obtain ⟨b0, h1, h2⟩ := Tt p
 simp only [h1, Option.bind_some]
 cases b0 with
 | false => rfl
 | true =>
  have hv := h2 rfl
  obtain ⟨n, hN, hn⟩ := W0 p hv
  obtain ⟨c, e, e1, e2⟩ := Vn hv hN hn
  simp only [Bool.not_true, cond_false, e1, Option.bind_some]
  rcases e2 with ⟨rfl, e2, e3⟩ | rfl
  .obtain ⟨cp, l⟩ := c
   simp only at e2 e3
   subst e2
   have hl := e3.len
   simp only [bne_self_eq_false, cond_false, Option.bind_some]
   by_cases c0 : l.length = 0
   .simp [c0]
   have c0' : ((l.length : Int) == 0) = false := by simp only [beq_eq_false_iff_ne]; omega
   obtain ⟨u1, u2, u3⟩ := X2 hk
   obtain ⟨j, j1, j2⟩ := Vj (k := l.length) u1 (by omega)
   obtain ⟨q, hq⟩ : ∃ q, l[j]? = some q := ⟨_, List.getElem?_eq_getElem j1⟩
   have s1 : F4 l 0 (j : Int) = some (l.take j) := Ga l j (by omega)
   have s2 : F4 l (AQ ((j : Int) + 1)) (l.length : Int) = some (l.drop (j + 1)) := by
    rw [AZ (show j < 1000000000 by omega)]
    unfold F4
    rw [if_pos ⟨by omega, by omega, by omega⟩]
    simp only [Int.toNat_natCast, Option.some.injEq]
    rw [List.take_of_length_le]
    simp
   have a1 := BS (show ([] : List AW).length + (l.take j).length <= 4294967296 by simp; omega)
   have a2 := BS (show (l.take j).length + (l.drop (j + 1)).length <= 4294967296 by simp; omega)
   have a3 := BS (show ([] : List AW).length + l.length <= 4294967296 by simp; omega)
   have a4 := BS (show l.length + [q].length <= 4294967296 by simp; omega)
   have hel : (l.eraseIdx j).length <= 64 := by
    have := List.length_eraseIdx_le l j
    omega
   have k1 := LU hv hN hn (l.eraseIdx j) (by omega) (fun x hx => by
    obtain ⟨i, _, hi⟩ := NF hx
    exact e3.light hv hn (List.mem_of_getElem? hi))
   have k2 := LU hv hN hn (l ++ [q]) (by simp; omega) (fun x hx => by
    rcases List.mem_append.1 hx with h | h
    .exact e3.light hv hn h
    rw [List.mem_singleton.1 h]; exact e3.light hv hn (List.mem_of_getElem? hq))
   rw [SY hv hn e3 hq] at k1
   rw [SZ hv hn e3 hq] at k2
   simp only [c0', cond_false, u3, j2, Option.bind_some, s1, s2, a1, a2, a3, List.nil_append, Nt, k1, Ad, hq, a4, k2, bne_self_eq_false]
   by_cases c : 64 < (l ++ [q]).length
   .have d : decide ((64 : Int) < ((l ++ [q]).length : Int)) = true := decide_eq_true (by omega)
    rw [d, if_pos c]
    rfl
   have d : decide ((64 : Int) < ((l ++ [q]).length : Int)) = false := decide_eq_false (by omega)
   rw [d, if_neg c]
   simp
  rfl
end
end Go.E
