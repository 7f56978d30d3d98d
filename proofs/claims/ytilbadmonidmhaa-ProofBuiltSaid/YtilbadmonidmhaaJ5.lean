/- Plain Lean: whether something is a road, as the document says; the roads of a signal are roads, and none is told twice. No condition. -/
import Derived.KernelRfl
import Derived.Test.YtilbadmonidmhaaJ4
set_option linter.unusedVariables false
set_option linter.unusedSimpArgs false
namespace Go.E
open Go
theorem QI (p : AK) (e i : Int) : (By p e i).Pairwise (fun a b => a.out ≠ b.out) := by
 unfold By
 repeat' split
 all_goals simp
theorem QJ {p : AK} {e i : Int} {w : BV} (h : w ∈ By p e i) : 0 <= w.out /\ w.out < CY (Ah p e) /\ 0 <= i /\ i < CY (Ah p e) /\ Ah p e ≠ 4 /\ (w.pos ≠ 0 -> Ah p e = 2 /\ (w.pos = 1 \/ w.pos = 2)) := by
 unfold By at h
 cases hh : D3 p ⟨e, i⟩ with
 | false => rw [hh] at h; simp at h
 | true =>
  obtain ⟨h1, h2, h3⟩ := GZ hh
  simp only at h1 h2 h3
  rw [hh] at h
  simp only [if_true] at h
  by_cases k1 : Ah p e = 1
  .rw [k1] at h h3 ⊢
   simp [CY] at h h3 ⊢
   subst h
   simp; omega
  by_cases k3 : Ah p e = 3
  .rw [k3] at h h3 ⊢
   simp [CY] at h h3 ⊢
   subst h
   simp
   split
   .omega
   split
   .omega
   split <;> omega
  by_cases k2 : Ah p e = 2
  .rw [k2] at h h3 ⊢
   simp [CY] at h h3 ⊢
   by_cases i0 : i = 0
   .subst i0
    simp at h
    rcases h with rfl | rfl <;> simp
   rw [if_neg i0] at h
   simp at h
   subst h
   simp; omega
  rw [if_neg k1, if_neg k3, if_neg k2] at h; simp at h
theorem Ub {l : List BV} {o : Int} {w : BV} (h : N9 l o = some w) : w ∈ l /\ w.out = o := by
 refine ⟨List.mem_of_find?_eq_some h, ?_⟩
 have := List.find?_some h
 simpa using this
theorem Rn : ∀ {l : List BV} {w : BV}, l.Pairwise (fun a b => a.out ≠ b.out) -> w ∈ l -> N9 l w.out = some w
 | a :: l, w, hp, hm => by
  rw [List.pairwise_cons] at hp
  unfold N9
  rw [List.find?_cons]
  rcases List.mem_cons.1 hm with rfl | hm
  .simp
  have := hp.1 w hm
  have e : (a.out == w.out) = false := beq_eq_false_iff_ne.2 this
  simp only [e]
  exact Rn hp.2 hm
section
variable {p : AK} {n : A4}
structure Xz (p : AK) (a s : Int) (x : AG) (st : List AU) (nd : List AX) (r : AW) (t : List AU) : Prop where
 frm : r.frm = s
 guards : r.guards = []
 zone : r.zone = []
 holds : r.holds = []
 bare : r.bare = false
 steps : r.steps = st ++ t
 ne : t ≠ []
 len : r.steps.length <= 12
 all : Br p a (some x) st nd t = some r.needs
 tail : ∀ l, t.getLast? = some l -> Ib p r.fin r.to l = true
theorem OA (s a : Int) : ∀ (k : Nat) (st : List AU) (nd : List AX) (x : AG) (r : AW), st.length + k = 13 -> r ∈ LK p s k st nd x (a :: st.map (·.elem)) -> ∃ t, Xz p a s x st nd r t /\ ∃ u t', t = u :: t' /\ u.elem = x.elem /\ u.in_ = x.fin
 | 0, st, nd, x, r, hk, hr => by simp [LK] at hr
 | k + 1, st, nd, x, r, hk, hr => by
  rw [L2] at hr
  by_cases hm : x.elem ∈ a :: st.map (·.elem) \/ st.length = 12
  .rw [if_pos hm] at hr; simp at hr
  rw [if_neg hm] at hr
  have hm1 : x.elem ∉ a :: st.map (·.elem) := fun h => hm (.inl h)
  have hm2 : ¬ (x.elem ≠ x.elem \/ x.fin ≠ x.fin \/ x.elem = a \/ x.elem ∈ st.map (·.elem)) := by
   rintro (h1 | h1 | h1 | h1)
   .exact h1 rfl
   .exact h1 rfl
   .exact hm1 (by rw [h1]; simp)
   exact hm1 (List.mem_cons_of_mem _ h1)
  have hlen : st.length < 12 := by
   have : st.length ≠ 12 := fun h => hm (.inr h)
   omega
  by_cases k4 : Ah p x.elem = 4
  .rw [if_pos k4] at hr
   simp at hr
   subst hr
   refine ⟨[⟨x.elem, x.fin, -1⟩], ⟨rfl, rfl, rfl, rfl, rfl, rfl, by simp, by simp [HQ]; omega, ?_, ?_⟩, _, _, rfl, rfl, rfl⟩
   .simp only [Br, if_neg hm2, if_pos k4, HQ, true_and, if_true]
   intro l hl
   simp at hl
   subst hl
   simp [Ib, k4, HQ]
  rw [if_neg k4] at hr
  obtain ⟨w, hw, hr⟩ := List.mem_flatMap.1 hr
  have hway := Rn (QI p x.elem x.fin) hw
  unfold JC at hr
  by_cases hrd : 0 <= A1 p ⟨x.elem, w.out⟩
  .rw [if_pos hrd] at hr
   simp at hr
   subst hr
   refine ⟨[⟨x.elem, x.fin, w.out⟩], ⟨rfl, rfl, rfl, rfl, rfl, rfl, by simp, by simp [HQ]; omega, ?_, ?_⟩, _, _, rfl, rfl, rfl⟩
   .unfold Br; rw [if_neg hm2, if_neg k4, hway]; simp [Br, HQ]
   intro l hl
   simp at hl
   subst hl
   simp [Ib, k4, HQ, hrd]
  rw [if_neg hrd] at hr
  cases hnx : Ar p ⟨x.elem, w.out⟩ with
  | none =>
   rw [hnx] at hr
   simp at hr
   subst hr
   refine ⟨[⟨x.elem, x.fin, w.out⟩], ⟨rfl, rfl, rfl, rfl, rfl, rfl, by simp, by simp [HQ]; omega, ?_, ?_⟩, _, _, rfl, rfl, rfl⟩
   .unfold Br; rw [if_neg hm2, if_neg k4, hway]; simp [Br, HQ]
   intro l hl
   simp at hl
   subst hl
   simp [Ib, k4, HQ, hrd, hnx]
  | some y =>
   rw [hnx] at hr
   have hmm : a :: st.map (·.elem) ++ [x.elem] = a :: (st ++ [(⟨x.elem, x.fin, w.out⟩ : AU)]).map (·.elem) := by simp
   simp only at hr
   rw [hmm] at hr
   obtain ⟨t, ht, u, t', htu, -, -⟩ := OA s a k (st ++ [⟨x.elem, x.fin, w.out⟩]) (DP nd x.elem w.pos) y r (by simp; omega) hr
   refine ⟨⟨x.elem, x.fin, w.out⟩ :: t, ⟨ht.frm, ht.guards, ht.zone, ht.holds, ht.bare, by rw [ht.steps]; simp, by simp, ht.len, ?_, ?_⟩, _, _, rfl, rfl, rfl⟩
   .unfold Br
    rw [if_neg hm2, if_neg k4, hway]
    dsimp only
    rw [if_neg (fun h => hrd h.2), hnx]
    exact ht.all
   intro l hl
   refine ht.tail l ?_
   rw [htu] at hl ⊢
   rwa [List.getLast?_cons_cons] at hl
theorem Cf {s : Int} {r : AW} (h : r ∈ FF p s) : I1 p r = true /\ r.frm = s /\ r.guards = [] /\ r.zone = [] /\ r.holds = [] /\ r.bare = false /\ r.steps.length <= 12 /\ 1 <= r.steps.length /\ r.needs.length <= 12 := by
 unfold FF at h
 cases hi : Al p.signals s with
 | none => rw [hi] at h; simp at h
 | some sg =>
  rw [hi] at h
  simp only at h
  cases hx : Ar p sg.at_ with
  | none => rw [hx] at h; simp at h
  | some y =>
   rw [hx] at h
   simp only at h
   obtain ⟨t, ht, -⟩ := OA s sg.at_.elem 13 [] [] y r rfl (by simpa using h)
   have hst : r.steps = t := by rw [ht.steps]; rfl
   have hlen : 1 <= r.steps.length := by
    rw [hst]
    exact List.length_pos_iff.2 ht.ne
   have hl2 := ht.len
   have hnl := L5 ht.all
   rw [<- hst] at hnl
   simp only [List.length_nil] at hnl
   refine ⟨?_, ht.frm, ht.guards, ht.zone, ht.holds, ht.bare, ht.len, hlen, by omega⟩
   unfold I1
   rw [ht.frm, hi]
   simp only
   rw [if_neg (by omega), hx, hst, ht.all]
   obtain ⟨l, hl⟩ : ∃ l, t.getLast? = some l := by
    rw [List.getLast?_eq_getElem?]
    rw [hst] at hlen
    exact ⟨_, List.getElem?_eq_getElem (by omega)⟩
   simp only [hl, ht.tail l hl, decide_true, Bool.and_true]
theorem QK (s a : Int) (k : Nat) (st : List AU) (nd : List AX) (x : AG) (w : BV) (r : AW) (hk : st.length + (k + 1) = 13) (h : r ∈ JC p s k st nd x (a :: st.map (·.elem)) w) : r.steps[st.length]? = some ⟨x.elem, x.fin, w.out⟩ := by
 unfold JC at h
 split at h
 .simp at h; subst h; simp [HQ]
 split at h
 .simp at h; subst h; simp [HQ]
 rename_i y hy
 have hmm : a :: st.map (·.elem) ++ [x.elem] = a :: (st ++ [(⟨x.elem, x.fin, w.out⟩ : AU)]).map (·.elem) := by simp
 rw [hmm] at h
 obtain ⟨t, ht, -⟩ := OA s a k _ _ y r (by simp; omega) h
 rw [ht.steps]; simp
theorem QL (s a : Int) : ∀ (k : Nat) (st : List AU) (nd : List AX) (x : AG), st.length + k = 13 -> (LK p s k st nd x (a :: st.map (·.elem))).Nodup
 | 0, st, nd, x, hk => by simp [LK]
 | k + 1, st, nd, x, hk => by
  rw [L2]
  split
  .simp
  split
  .simp
  unfold List.Nodup; rw [List.pairwise_flatMap]
  refine ⟨fun w hw => ?_, ?_⟩
  .unfold JC
   split
   .simp
   split
   .simp
   rename_i y hy
   have hmm : a :: st.map (·.elem) ++ [x.elem] = a :: (st ++ [(⟨x.elem, x.fin, w.out⟩ : AU)]).map (·.elem) := by simp
   rw [hmm]
   exact QL s a k _ _ y (by simp; omega)
  refine (QI p x.elem x.fin).imp fun {w v} hwv => ?_
  rintro r hr1 r2 hr2 rfl
  have h1 := QK s a k st nd x w r (by omega) hr1
  have h2 := QK s a k st nd x v r (by omega) hr2
  rw [h1] at h2
  simp at h2
  exact hwv h2
theorem Uc (s : Int) : (FF p s).Nodup := by
 unfold FF
 split
 .simp
 split
 .simp
 rename_i sg _ _ y _
 have := QL (p := p) s sg.at_.elem 13 [] [] y rfl
 simpa using this
end
end Go.E
/- Plain Lean: RoadOfs, RoadAlls, RoadIsOne, RoadTurned and RoadEach answer true, for every argument. No condition. -/
namespace Go.E
open Go
section
variable {p : AK} {n : A4}
theorem Pq (s : Int) : (FF p s).length <= 2 ^ 13 := by
 unfold FF
 split
 .simp
 split
 .simp
 exact Po p s 13 _ _ _ _
def JD (p : AK) (i : Nat) : List AW := (List.range i).flatMap fun (s : Nat) => FF p (s : Int)
def Ga (p : AK) : List AW := JD p p.signals.length
theorem M5 (i : Nat) : JD p (i + 1) = JD p i ++ FF p (i : Int) := by
 unfold JD
 rw [List.range_succ, List.flatMap_append]; simp
theorem Ro : ∀ i : Nat, (JD p i).length <= i * 2 ^ 13
 | 0 => by simp [JD]
 | i + 1 => by
  rw [M5, List.length_append]
  have := Ro i
  have := Pq (p := p) (i : Int)
  omega
def M6 (p : AK) : List AW × Int := if 64 < (Ga p).length then ([], 3) else (Ga p, 0)
theorem SP (hn : BT p n) (hs : p.signals.length <= 24) : Ho n = some (M6 p) := by
 unfold Ho
 have e : Bf n = some (p.signals.length : Int) := by unfold Bf; rw [hn.plan]
 rw [e]
 simp only [Option.bind_some]
 obtain ⟨b, h1, h2⟩ := B7 (l := p.signals) (step := EE n (p.signals.length : Int)) (Post := fun b => b = M6 p) (fun i o => o = JD p i) (c := [])
  (fun o ho => by
   refine ⟨M6 p, ?_, rfl⟩
   unfold M6 Ga
   rw [<- ho]
   by_cases c : 64 < o.length
   .have d : decide (64 < (o.length : Int)) = true := by simp; omega
    simp [EE, d, c]
   have d : decide (64 < (o.length : Int)) = false := by simp; omega
   simp [EE, d, c])
  (fun i a o ha ho => by
   have hi := BW ha
   have h1 := Ro (p := p) i
   have h2 := Pq (p := p) (i : Int)
   rw [<- ho] at h1
   refine .inr ⟨o ++ FF p (i : Int), ?_, by rw [M5, ho]⟩
   simp only [EE, BR ha, cond_true, PD hn, Option.bind_some]
   rw [Bc (by omega)]
   simp only [Option.bind_some, AZ (show i < 1000000000 by omega)])
  rfl
 rw [h1, h2]
end
end Go.E
/- Plain Lean: RoadRuns answers true, for every argument. No condition. -/
namespace Go.E
open Go
def VZ (pos : List Int) (e : Int) : Int := (Al pos e).getD 0
section
variable {p : AK} {n : A4}
theorem Tk (p : AK) (e i : Int) : By p e i = [] \/ (∃ w, By p e i = [w]) \/ By p e i = [⟨1, 1⟩, ⟨2, 2⟩] := by
 unfold By
 split
 .split
  .exact .inr (.inl ⟨_, rfl⟩)
  split
  .exact .inr (.inl ⟨_, rfl⟩)
  split
  .split
   .exact .inr (.inr rfl)
   exact .inr (.inl ⟨_, rfl⟩)
  exact .inl rfl
 exact .inl rfl
theorem L6 {e i x : Int} {w : BV} (hw : w ∈ By p e i) (hx : w.pos = 0 \/ w.pos = x) : CD p e i x = some w.out := by
 unfold CD
 rcases Tk p e i with h | ⟨v, h⟩ | h
 .rw [h] at hw; simp at hw
 .rw [h] at hw ⊢
  simp at hw
  subst hw
  simp only [D5, if_pos hx]
 rw [h] at hw ⊢
 simp at hw
 rcases hw with rfl | rfl
 .simp only [D5, if_pos hx]
 have : x = 2 := by simp at hx; omega
 subst this
 simp [D5]
theorem Jw {a : Int} : ∀ {t : List AU} {x : Option AG} {pv : List AU} {nd nd' : List AX}, (∀ m ∈ nd, m.elem ∈ pv.map (·.elem) /\ Ah p m.elem = 2 /\ (m.pos = 1 \/ m.pos = 2)) -> nd.Pairwise (fun a b => a.elem ≠ b.elem) -> Br p a x pv nd t = some nd' ->
  (∀ m ∈ nd', m.elem ∈ (pv ++ t).map (·.elem) /\ Ah p m.elem = 2 /\ (m.pos = 1 \/ m.pos = 2)) /\ nd'.Pairwise (fun a b => a.elem ≠ b.elem) /\ ∀ m ∈ nd, m ∈ nd'
 | [], x, pv, nd, nd', h1, h2, h => by
  have : nd = nd' := by cases x <;> simpa [Br] using h
  subst this
  exact ⟨by simpa using h1, h2, fun m hm => hm⟩
 | s :: r, none, pv, nd, nd', h1, h2, h => by simp [Br] at h
 | s :: r, some x, pv, nd, nd', h1, h2, h => by
  unfold Br at h
  split at h
  .cases h
  rename_i hc
  split at h
  .split at h
   .cases h
    exact ⟨fun m hm => ⟨by have := (h1 m hm).1; simp at this ⊢; exact .inl this, (h1 m hm).2⟩, h2, fun m hm => hm⟩
   cases h
  cases hw : N9 (By p s.elem s.in_) s.out with
  | none => rw [hw] at h; cases h
  | some w =>
   rw [hw] at h
   simp only at h
   split at h
   .cases h
   have hf := QJ (Ub hw).1
   have hsub : ∀ m ∈ DP nd s.elem w.pos, m ∈ nd \/ (m = ⟨s.elem, w.pos⟩ /\ w.pos ≠ 0) := by
    intro m hm
    unfold DP at hm
    split at hm
    .exact .inl hm
    rename_i c
    rcases List.mem_append.1 hm with hm | hm
    .exact .inl hm
    exact .inr ⟨by simpa using hm, c⟩
   have hnot : s.elem ∉ pv.map (·.elem) := fun h => hc (.inr (.inr (.inr h)))
   obtain ⟨g1, g2, g3⟩ := Jw (nd := DP nd s.elem w.pos) (pv := pv ++ [s]) (fun m hm => by
    rcases hsub m hm with hm | ⟨rfl, hp⟩
    .exact ⟨by have := (h1 m hm).1; simp at this ⊢; exact .inl this, (h1 m hm).2⟩
    .exact ⟨by simp, hf.2.2.2.2.2 hp⟩) (by
    unfold DP
    split
    .exact h2
    rw [List.pairwise_append]
    refine ⟨h2, by simp, fun m hm q hq => ?_⟩
    simp at hq
    subst hq
    intro he
    simp only at he
    rw [<- he] at hnot
    exact hnot (h1 m hm).1) h
   refine ⟨fun m hm => ?_, g2, fun m hm => g3 m ?_⟩
   .have := g1 m hm
    simpa using this
   unfold DP
   split
   .exact hm
   exact List.mem_append.2 (.inl hm)
theorem L7 {e : Int} (h : Ah p e ≠ 0) : 0 <= e /\ e < p.elems.length := by
 unfold Ah at h
 cases hi : Al p.elems e with
 | none => rw [hi] at h; simp at h
 | some a => exact Pm hi
theorem HS {r : AW} (h : I1 p r = true) : ∃ sg nd l, Al p.signals r.frm = some sg /\ 1 <= r.steps.length /\ r.steps.length <= 12 /\ Br p sg.at_.elem (Ar p sg.at_) [] [] r.steps = some nd /\ r.steps.getLast? = some l /\ Ib p r.fin r.to l = true /\ r.needs = nd := by
 unfold I1 at h
 cases hi : Al p.signals r.frm with
 | none => rw [hi] at h; cases h
 | some sg =>
  rw [hi] at h
  simp only at h
  split at h
  .cases h
  cases hs : Br p sg.at_.elem (Ar p sg.at_) [] [] r.steps with
  | none => rw [hs] at h; cases h
  | some nd =>
   rw [hs] at h
   cases hl : r.steps.getLast? with
   | none => rw [hl] at h; cases h
   | some l =>
    rw [hl] at h
    simp only [Bool.and_eq_true, decide_eq_true_eq] at h
    exact ⟨sg, nd, l, rfl, by omega, by omega, hs, rfl, h.1, h.2⟩
end
end Go.E
/- Plain Lean: RoadRuns answers true, for every argument. No condition. -/
namespace Go.E
open Go
section
variable {p : AK} {n : A4}
end
end Go.E
/- Plain Lean: RoadWhole answers true, for every argument. No condition. -/
namespace Go.E
open Go
section
variable {p : AK} {n : A4}
end
end Go.E
/- Reach hands the keys of a map out in whatever order and sorts them: what it answers has no order in it; the example that the laws of sides AJ at. No condition. -/
namespace Go.E
open Go Go.Proofs
set_option maxRecDepth 100000
end Go.E
/- Plain Lean: the ports on the sides of a road, and what is its own: the program's answer and the document's are one (laws SidePorts, SideOwns). No condition. -/
namespace Go.E
open Go
theorem Vc {l : List AU} {e : Int} : decide (e ∈ l.map (·.elem)) = (l.find? fun s => s.elem == e).isSome := by
 induction l with
 | nil => simp
 | cons a l ih =>
  rw [List.find?_cons]
  by_cases c : a.elem = e
  .simp [c]
  have : (a.elem == e) = false := beq_eq_false_iff_ne.2 c
  rw [this]
  simp only [List.map_cons, List.mem_cons, Ne.symm c, false_or]
  exact ih
theorem Rq (r : AW) (hl : r.steps.length < 1000000) (e : Int) : ES r e = some (decide (e ∈ r.steps.map (·.elem))) := by
 unfold ES
 obtain ⟨t, h1, h2⟩ := Gj (l := r.steps) (f := fun s => s.elem == e) hl (step := Fu r e) (by simp [Fu]) (fun i a ha => by
  have := BW ha
  simp only [Fu, Hv, BR ha, cond_true, Ac, ha, Option.bind_some, AZ (show i < 1000000000 by omega)]
  by_cases c : a.elem = e
  .simp [c]
  have : (a.elem == e) = false := beq_eq_false_iff_ne.2 c
  simp [this])
 rw [h1, Vc]
 simp only [Option.bind_some, Option.some.injEq]
 rcases h2 with ⟨rfl, h2⟩ | ⟨a, h0, h2, _⟩
 .rw [h2]; rfl
 rw [h2]; simp [h0]
theorem KO {α β γ : Type} (B : Nat) {l : List α} (f : α -> List β) (hf : ∀ a, (f a).length <= 4) (hl : l.length <= 100000) {step : Int × List β -> Option (Int × List β ⊕ γ)} {fin : List β -> γ}
  (h0 : ∀ o, step ((l.length : Int), o) = some (.inr (fin o))) (h1 : ∀ (i : Nat) a o, l[i]? = some a -> o.length <= B + 400000 -> step ((i : Int), o) = some (.inl (((i + 1 : Nat) : Int), o ++ f a))) (o : List β) (ho : o.length <= B) :
  AO step ((0 : Int), o) = some (fin (o ++ l.flatMap f)) := by
 have hlen : ∀ i, ((l.take i).flatMap f).length <= i * 4 := by
  intro i
  induction i with
  | zero => simp
  | succ i ih =>
   rw [List.take_add_one, List.flatMap_append, List.length_append]
   cases h : l[i]? with
   | none => simp only [Option.toList_none, List.flatMap_nil, List.length_nil]; omega
   | some a =>
    have := hf a
    simp only [Option.toList_some, List.flatMap_cons, List.flatMap_nil, List.append_nil]
    omega
 obtain ⟨b, h2, rfl⟩ := B7 (l := l) (step := step) (Post := fun b => b = fin (o ++ l.flatMap f)) (fun i c => c = o ++ (l.take i).flatMap f) (c := o)
  (fun c hc => ⟨fin c, h0 c, by rw [hc, List.take_length]⟩)
  (fun i a c ha hc => by
   have hi := BW ha
   have := hlen i
   refine .inr ⟨c ++ f a, h1 i a c ha (by rw [hc, List.length_append]; omega), ?_⟩
   rw [hc, List.take_add_one, ha]
   simp only [Option.toList_some, List.flatMap_append, List.flatMap_cons, List.flatMap_nil, List.append_nil, List.append_assoc])
  (by simp)
 exact h2
section
variable {p : AK} {n : A4}
def L8 (p : AK) (s : AU) : List Int :=
 if Ah p s.elem = 2 then [AQ (3 - (if s.out > s.in_ then s.out else s.in_))] else if Ah p s.elem = 3 then (if 1 < s.in_ then [0, 1] else [2, 3]) else []
def KP (p : AK) (e : Int) (k : Int) : List AG := if (Ar p ⟨e, k⟩).isSome then [⟨e, k⟩] else []
def LM (p : AK) (s : AU) : List AG := (L8 p s).flatMap (KP p s.elem)
def CN (p : AK) (l : List AU) : List AG := l.flatMap (LM p)
theorem QN (s : AU) : (L8 p s).length <= 2 := by
 unfold L8
 split
 .simp
 split
 .split <;> simp
 simp
theorem QO (e k : Int) : (KP p e k).length <= 1 := by unfold KP; split <;> simp
theorem PF (s : AU) : (LM p s).length <= 2 := by
 have := HR (KP p s.elem) 1 (L8 p s) fun k _ => QO s.elem k
 have := QN (p := p) s
 unfold LM
 omega
theorem Gk (l : List AU) : (CN p l).length <= l.length * 2 := HR _ 2 l fun s _ => PF s
theorem Vd (hn : BT p n) (s : AU) (c : Int × List AG) (ks : List Int) (hk : ks.length <= 10) (o : List AG) (ho : o.length <= 400000) :
  AO (EZ n c s ks) (0, o) = some (.inl (AQ (c.1 + 1), o ++ ks.flatMap (KP p s.elem))) := by
 refine KO 400000 (l := ks) (KP p s.elem) (fun k => by have := QO (p := p) s.elem k; omega) (by omega) (fin := fun o => (Sum.inl (AQ (c.1 + 1), o) : (Int × List AG) ⊕ List AG)) (fun o => ?_) (fun i a o ha hb => ?_) o ho
 .simp only [EZ, Bx, cond_false]
 have := BW ha
 simp only [EZ, BR ha, cond_true, Ac, ha, Option.bind_some, D4 hn, AZ (show i < 1000000000 by omega)]
 unfold KP
 cases (Ar p ⟨s.elem, a⟩).isSome with
 | true => simp [Bc (show o.length + [(⟨s.elem, a⟩ : AG)].length <= 4294967296 by simp; omega)]
 | false => simp
theorem Rr (hn : BT p n) (r : AW) (hl : r.steps.length <= 1000) : E0 n r = some (CN p r.steps) := by
 unfold E0
 rw [show CN p r.steps = ([] : List AG) ++ r.steps.flatMap (LM p) from rfl]
 refine KO 0 (l := r.steps) (LM p) (fun s => by have := PF (p := p) s; omega) (by omega) (fin := fun o => o) (fun o => ?_) (fun i s o ha hb => ?_) [] (by simp)
 .simp only [F8, Bx, cond_false]
 have hi := BW ha
 simp only [F8, BR ha, cond_true, Ac, ha, Option.bind_some, DC hn]
 have e : (bif (Ah p s.elem == 2) then some [AQ (3 - (if s.out > s.in_ then s.out else s.in_))] else bif (Ah p s.elem == 3) then bif decide (1 < s.in_) then some [0, 1] else some [2, 3] else some ([] : List Int) : Option (List Int)) = some (L8 p s) := by
  unfold L8
  by_cases c2 : Ah p s.elem = 2
  .simp [c2]
  have b2 : (Ah p s.elem == 2) = false := beq_eq_false_iff_ne.2 c2
  by_cases c3 : Ah p s.elem = 3
  .by_cases d : 1 < s.in_ <;> simp [b2, c2, c3, d]
  have b3 : (Ah p s.elem == 3) = false := beq_eq_false_iff_ne.2 c3
  simp [b2, b3, c2, c3]
 rw [e]
 have hk := QN (p := p) s
 simp only [Option.bind_some, Vd hn s ((i : Int), o) (L8 p s) (by omega) o (by omega), AZ (show i < 1000000000 by omega)]
 rfl
theorem Eb {s : Int} {r : AW} (h : r ∈ FF p s) : r.steps.length <= 12 := (Cf h).2.2.2.2.2.2.1
end
end Go.E
/- Plain Lean: which ports lie on the sides of a road (law SideApart). No condition. -/
namespace Go.E
open Go
section
variable {p : AK} {n : A4}
end
end Go.E
/- Plain Lean: what the sides of a road reach, told without an order (KQ, JN): the program's answer. No condition. -/
namespace Go.E
open Go
def A9 (vis : List (AG × Bool)) (x : AG) : Bool := (Ae vis x).getD false
theorem Ff (vis : List (AG × Bool)) (x y : AG) : A9 (A5 x true vis) y = true ↔ y = x \/ A9 vis y = true := by
 unfold A9
 rw [Dq]
 by_cases e : y = x <;> simp [e]
theorem Ks {α : Type} {P P' : α -> Bool} (hpp : ∀ z, P' z = true -> P z = true) : ∀ l : List α, (l.filter P').length <= (l.filter P).length /\ ∀ x ∈ l, P x = true -> P' x = false -> (l.filter P').length + 1 <= (l.filter P).length
 | [] => ⟨Nat.le_refl _, by simp⟩
 | a :: l => by
  obtain ⟨h1, h2⟩ := Ks hpp l
  rw [List.filter_cons, List.filter_cons]
  by_cases c : P' a = true
  .rw [if_pos c, if_pos (hpp a c)]
   simp only [List.length_cons]
   refine ⟨by omega, fun x hx hp hp' => ?_⟩
   rcases List.mem_cons.1 hx with rfl | hx
   .rw [c] at hp'; cases hp'
   have := h2 x hx hp hp'; omega
  rw [if_neg c]
  by_cases d : P a = true
  .rw [if_pos d]
   simp only [List.length_cons]
   exact ⟨by omega, fun x hx hp hp' => by omega⟩
  rw [if_neg d]
  refine ⟨h1, fun x hx hp hp' => ?_⟩
  rcases List.mem_cons.1 hx with rfl | hx
  .exact absurd hp d
  exact h2 x hx hp hp'
section
variable {p : AK} {n : A4}
def NZ (p : AK) (shut : List Bool) (x : AG) : Bool := decide (0 <= A1 p x) && (Al shut (A1 p x)).getD false
inductive KQ (p : AK) (pos : List Int) (shut : List Bool) (st : List AU) : AG -> Prop
 | init {x y : AG} : x ∈ CN p st -> Ar p x = some y -> KQ p pos shut st y
 | step {x y : AG} {o : Int} : KQ p pos shut st x -> x.elem ∉ st.map (·.elem) -> NZ p shut x = false -> Ah p x.elem ≠ 4 -> CD p x.elem x.fin (VZ pos x.elem) = some o -> Ar p ⟨x.elem, o⟩ = some y -> KQ p pos shut st y
def JN (p : AK) (pos : List Int) (shut : List Bool) (st : List AU) (e : Int) : Prop :=
 ∃ x, KQ p pos shut st x /\ x.elem = e /\ e ∉ st.map (·.elem) /\ NZ p shut x = false /\ (Ah p e = 4 \/ (CD p e x.fin (VZ pos e)).isSome = true)
variable {pos : List Int} {shut : List Bool} {r : AW}
theorem KQ.from {st : List AU} {y : AG} (h : KQ p pos shut st y) : ∃ x, Ar p x = some y := by
 cases h with
 | init h1 h2 => exact ⟨_, h2⟩
 | step _ _ _ _ _ h2 => exact ⟨_, h2⟩
theorem Ud {x : AG} (h : D3 p x = true) : 0 <= x.elem /\ x.elem < p.elems.length := by
 obtain ⟨h1, h2, h3⟩ := GZ h
 refine L7 fun e => ?_
 rw [e] at h3
 simp [CY] at h3
 omega
def PG (vis : List (AG × Bool)) (zone : List (Int × Bool)) (p : AK) (y : AG) : Prop := A9 vis y = true \/ (Ah p y.elem = 4 /\ (Ae zone y.elem).isSome = true)
def To (p : AK) (pos : List Int) (shut : List Bool) (st : List AU) (q : List AG) (vis : List (AG × Bool)) (zone : List (Int × Bool)) (x : AG) : Prop :=
 x.elem ∉ st.map (·.elem) -> NZ p shut x = false -> Ah p x.elem ≠ 4 /\ ∀ o, CD p x.elem x.fin (VZ pos x.elem) = some o -> (Ae zone x.elem).isSome = true /\ ∀ y, Ar p ⟨x.elem, o⟩ = some y -> y ∈ q \/ PG vis zone p y
def LN (p : AK) (vis : List (AG × Bool)) : Nat := ((Bq p).filter fun x => !A9 vis x).length
structure RI (p : AK) (pos : List Int) (shut : List Bool) (st : List AU) (M k : Nat) (q : List AG) (vis : List (AG × Bool)) (zone : List (Int × Bool)) : Prop where
 arr : ∀ x ∈ q, KQ p pos shut st x
 full : ∀ x, A9 vis x = true -> To p pos shut st q vis zone x
 init : ∀ x y, x ∈ CN p st -> Ar p x = some y -> y ∈ q \/ PG vis zone p y
 zon : ∀ e, (Ae zone e).isSome = true -> JN p pos shut st e
 nodup : (zone.map (·.1)).Nodup
 len : zone.length <= k
 meas : k + q.length + 2 * LN p vis <= M
theorem RI.next {st : List AU} {M k : Nat} {x : AG} {q q' : List AG} {vis vis' : List (AG × Bool)} {zone zone' : List (Int × Bool)} (h : RI p pos shut st M k (x :: q) vis zone)
  (hq : ∀ y ∈ q, y ∈ q') (hq2 : ∀ y ∈ q', KQ p pos shut st y) (hv : ∀ y, A9 vis y = true -> A9 vis' y = true) (hv2 : ∀ y, A9 vis' y = true -> A9 vis y = true \/ y = x)
  (hz : ∀ e, (Ae zone e).isSome = true -> (Ae zone' e).isSome = true) (hz2 : ∀ e, (Ae zone' e).isSome = true -> JN p pos shut st e) (hz3 : (zone'.map (·.1)).Nodup) (hz4 : zone'.length <= zone.length + 1)
  (hx : PG vis' zone' p x) (hf : A9 vis' x = true -> A9 vis x = false -> To p pos shut st q' vis' zone' x) (hm : q'.length + 2 * LN p vis' <= q.length + 2 * LN p vis) : RI p pos shut st M (k + 1) q' vis' zone' := by
 have keep : ∀ y, (y ∈ x :: q \/ PG vis zone p y) -> y ∈ q' \/ PG vis' zone' p y := by
  rintro y (hy | hy | ⟨hy, hy2⟩)
  .rcases List.mem_cons.1 hy with rfl | hy
   .exact .inr hx
   exact .inl (hq y hy)
  .exact .inr (.inl (hv y hy))
  exact .inr (.inr ⟨hy, hz _ hy2⟩)
 refine ⟨hq2, fun y hy => ?_, fun a y ha hy => keep y (h.init a y ha hy), hz2, hz3, by have := h.len; omega, by have := h.meas; simp only [List.length_cons] at this; omega⟩
 have old : A9 vis y = true -> To p pos shut st q' vis' zone' y := fun hy => fun h1 h2 => by
  obtain ⟨g1, g2⟩ := h.full y hy h1 h2
  exact ⟨g1, fun o ho => ⟨hz _ (g2 o ho).1, fun z hz' => keep z ((g2 o ho).2 z hz')⟩⟩
 rcases hv2 y hy with hy' | rfl
 .exact old hy'
 cases c : A9 vis y with
 | true => exact old c
 | false => exact hf hy c
theorem Ve {α : Type} (x : α) (l : List α) : K8 (x :: l) 1 (((x :: l).length : Nat) : Int) = some l := by
 show Hf (x :: l) _ _ = _
 unfold Hf
 rw [if_pos ⟨by omega, by simp; omega, by omega⟩]
 simp
end
end Go.E
/- Plain Lean: the elements that Reach answers are those of JN, ascending (laws SideShut, SideRuns). No condition. -/
namespace Go.E
open Go
section
variable {p : AK} {n : A4} {pos : List Int} {shut : List Bool} {r : AW}
theorem KQ.in_ports {st : List AU} {x : AG} (h : KQ p pos shut st x) : x ∈ Bq p := by
 obtain ⟨y, hy⟩ := h.from
 exact KN hy
theorem W3 {vis : List (AG × Bool)} (x : AG) : LN p (A5 x true vis) <= LN p vis :=
 (Ks (fun z hz => by
  cases hs : A9 vis z with
  | false => rfl
  | true =>
   have := (Ff vis x z).2 (.inr hs)
   simp only [this, Bool.not_true] at hz
   cases hz) (Bq p)).1
theorem Ue {vis : List (AG × Bool)} {x : AG} (hx : x ∈ Bq p) (hv : A9 vis x = false) : LN p (A5 x true vis) + 1 <= LN p vis :=
 (Ks (fun z hz => by
  cases hs : A9 vis z with
  | false => rfl
  | true =>
   have := (Ff vis x z).2 (.inr hs)
   simp only [this, Bool.not_true] at hz
   cases hz) (Bq p)).2 x hx (by simp [hv]) (by simp [(Ff vis x x).2 (.inl rfl)])
def CV (p : AK) (l : List AG) : List AG := l.map fun x => (Ar p x).getD ⟨0, 0⟩
theorem Hz {l : List AU} {x : AG} (h : x ∈ CN p l) : ∃ y, Ar p x = some y := by
 unfold CN LM at h
 obtain ⟨s, _, h⟩ := List.mem_flatMap.1 h
 obtain ⟨k, _, h⟩ := List.mem_flatMap.1 h
 unfold KP at h
 split at h
 .rename_i hs
  simp at h
  subst h
  exact Option.isSome_iff_exists.1 hs
 simp at h
theorem QP {a b : List Bool} (h : ∀ j : Nat, a[j]? = some true -> b[j]? = some true) {x : AG} (hs : NZ p b x = false) : NZ p a x = false := by
 unfold NZ at *
 by_cases c : 0 <= A1 p x
 .obtain ⟨i, hi⟩ := Int.eq_ofNat_of_zero_le c
  rw [hi] at hs ⊢
  simp only [Ac, Int.natCast_nonneg, decide_true, Bool.true_and] at hs ⊢
  cases ha : a[i]? with
  | none => rfl
  | some v =>
   cases v with
   | false => rfl
   | true => rw [h i ha] at hs; cases hs
 simp [c]
theorem KQ.mono {a b : List Bool} (h : ∀ j : Nat, a[j]? = some true -> b[j]? = some true) {st : List AU} {x : AG} (hx : KQ p pos b st x) : KQ p pos a st x := by
 induction hx with
 | init h1 h2 => exact .init h1 h2
 | step h1 h2 h3 h4 h5 h6 ih => exact .step ih h2 (QP h h3) h4 h5 h6
theorem JN.mono {a b : List Bool} (h : ∀ j : Nat, a[j]? = some true -> b[j]? = some true) {st : List AU} {e : Int} (hx : JN p pos b st e) : JN p pos a st e := by
 obtain ⟨x, h1, h2, h3, h4, h5⟩ := hx
 exact ⟨x, h1.mono h, h2, h3, QP h h4, h5⟩
theorem JN.range (hv : B9 p) {st : List AU} {e : Int} (h : JN p pos shut st e) : 0 <= e /\ e < p.elems.length := by
 obtain ⟨x, h1, rfl, _⟩ := h
 obtain ⟨w, hw⟩ := h1.from
 exact Ud (hv.join.next hw)
end
end Go.E
/- Plain Lean: what is reached is in order, outside the road, and no more if more signals are shut (law SideShut); a run that comes in from the side begins in it (law SideRuns). No condition. -/
namespace Go.E
open Go
section
variable {p : AK} {n : A4} {pos : List Int} {shut : List Bool} {r : AW}
theorem WU (hn : BT p n) : EI n = some (p.elems.length : Int) := by
 unfold EI; rw [hn.plan]
end
end Go.E
/- Plain Lean: a run that comes in from the side begins in an element that is reached (law SideRuns). No condition. -/
namespace Go.E
open Go
theorem L9 {x : AG} : ∀ {l m : List C2}, x ∉ (l.flatMap fun j => [j.a, j.b]) -> CK (l ++ m) x = CK m x
 | [], m, _ => rfl
 | j :: l, m, h => by
  simp only [List.flatMap_cons, List.mem_append, List.mem_cons, List.not_mem_nil, or_false, not_or] at h
  obtain ⟨⟨h1, h2⟩, h3⟩ := h
  simp only [List.cons_append, CK]
  rw [if_neg (fun e => h1 e.symm), if_neg (fun e => h2 e.symm)]
  exact L9 h3
theorem Nn {x y : AG} : ∀ {l : List C2}, CK l x = some y -> ∃ l1 j l2, l = l1 ++ j :: l2 /\ ((j.a = x /\ j.b = y) \/ (j.b = x /\ j.a = y))
 | j :: l, h => by
  simp only [CK] at h
  split at h
  .rename_i e; cases h; exact ⟨[], j, l, rfl, .inl ⟨e, rfl⟩⟩
  split at h
  .rename_i e; cases h; exact ⟨[], j, l, rfl, .inr ⟨e, rfl⟩⟩
  obtain ⟨l1, k, l2, e, hk⟩ := Nn h
  exact ⟨j :: l1, k, l2, by rw [e]; rfl, hk⟩
section
variable {p : AK} {n : A4} {pos : List Int} {shut : List Bool} {r : AW}
theorem SS (hj : F9 p) : (Bq p).Nodup := by
 rw [List.Nodup, List.pairwise_iff_getElem]
 intro i k hi hk hlt
 exact hj.dist k i _ _ hlt (List.getElem?_eq_getElem hk) (List.getElem?_eq_getElem hi)
theorem QQ (hj : F9 p) {x y : AG} (h : Ar p x = some y) : Ar p y = some x := by
 obtain ⟨l1, j, l2, e, hk⟩ := Nn h
 have hnd := SS hj
 unfold Bq at hnd
 unfold Ar
 rw [e] at hnd ⊢
 rw [List.flatMap_append, List.flatMap_cons, List.nodup_append] at hnd
 obtain ⟨_, h2, h3⟩ := hnd
 have ha : j.a ∉ l1.flatMap fun j => [j.a, j.b] := fun hm => h3 _ hm _ (by simp) rfl
 have hb : j.b ∉ l1.flatMap fun j => [j.a, j.b] := fun hm => h3 _ hm _ (by simp) rfl
 have hab : j.a ≠ j.b := by
  rw [List.nodup_append] at h2
  have := h2.1
  simpa using this
 rcases hk with ⟨rfl, rfl⟩ | ⟨rfl, rfl⟩
 .rw [L9 hb]
  simp [CK, hab]
 rw [L9 ha]
 simp [CK]
end
end Go.E
/- Plain Lean: what the sides of a road reach: the document's answer and the program's are one (law SideReaches). No condition. -/
namespace Go.E
open Go
section
variable {p : AK} {n : A4} {pos : List Int} {shut : List Bool} {r : AW}
end
end Go.E
/- The example that the laws of flanks AJ at, reckoned by the kernel. No condition. -/
namespace Go.E
open Go Go.Proofs
set_option maxRecDepth 100000
end Go.E
/- The example that the laws of proofs AJ at, reckoned by the kernel. No condition. -/
namespace Go.E
open Go Go.Proofs
set_option maxRecDepth 100000
theorem WN : IY = some true := by kernel_rfl
end Go.E
/- Plain Lean: the flank of a road: how its search begins; a road without side ports (law FlankNone). No condition. -/
namespace Go.E
open Go
theorem H0 (l : List Int) (hl : l.length < 1000000) (x : Int) : BA l x = some (decide (x ∈ l)) := by
 unfold BA Ea
 obtain ⟨t, h1, h2⟩ := Gj (l := l) (f := fun a => x == a) hl (step := Ch l x) (by simp [Ch]) (fun i a ha => by
  have := BW ha
  simp only [Ch, BR ha, cond_true, Ac, ha, Option.bind_some, AZ (show i < 1000000000 by omega)]
  cases hb : (x == a) <;> simp)
 rw [h1]
 simp only [Option.bind_some, Option.some.injEq]
 rcases h2 with ⟨rfl, h2⟩ | ⟨a, h0, h2, _⟩
 .have : x ∉ l := fun h => by have := List.find?_eq_none.1 h2 x h; simp at this
  simp [this]
 have hm := List.mem_of_find?_eq_some h2
 have he := List.find?_some h2
 simp only [beq_iff_eq] at he
 subst he
 simp [h0, hm]
theorem MR (l : List AX) (hl : l.length < 1000000) (x : AX) : Bl l x = some (decide (x ∈ l)) := by
 unfold Bl DJ
 obtain ⟨t, h1, h2⟩ := Gj (l := l) (f := fun a => x == a) hl (step := CF l x) (by simp [CF]) (fun i a ha => by
  have := BW ha
  simp only [CF, BR ha, cond_true, Ac, ha, Option.bind_some, AZ (show i < 1000000000 by omega)]
  cases hb : (x == a) <;> simp)
 rw [h1]
 simp only [Option.bind_some, Option.some.injEq]
 rcases h2 with ⟨rfl, h2⟩ | ⟨a, h0, h2, _⟩
 .have : x ∉ l := fun h => by have := List.find?_eq_none.1 h2 x h; simp at this
  simp [this]
 have hm := List.mem_of_find?_eq_some h2
 have he := List.find?_some h2
 simp only [beq_iff_eq] at he
 subst he
 simp [h0, hm]
section
variable {p : AK} {n : A4} {r : AW}
theorem G4 (hv : B9 p) (hn : BT p n) (h1 : r.steps.length <= 12) (h2 : r.needs.length <= 1000) : CE n r = AO (Bs n r r.steps r.needs p) (false, [], [], [], [], (CV p (CN p r.steps)).reverse) := by
 unfold CE
 have e1 : BN r.steps = some r.steps := Fd _ (by omega)
 have e2 : Bm r.needs = some r.needs := Fd _ (by omega)
 have e3 : B4 n = some p := by unfold B4; rw [hn.plan, NY p hv.few]; rfl
 simp only [e1, e2, e3, Option.bind_some, Rr hn (⟨r.frm, r.to, r.fin, r.steps, r.needs, [], [], [], false⟩ : AW) (show r.steps.length <= 1000 by omega)]
 have hp := Gk (p := p) r.steps
 generalize hL : CN p r.steps = L at hp
 have key : ∀ (k : Nat) (q : List AG), k <= L.length -> q = (CV p (L.drop k)).reverse -> AO (EL n r r.steps r.needs p L) ((k : Int) - 1, q) = AO (Bs n r r.steps r.needs p) (false, [], [], [], [], (CV p L).reverse) := by
  intro k
  induction k with
  | zero =>
   intro q _ hq
   rw [List.drop_zero] at hq
   subst hq
   cases hr : AO (Bs n r r.steps r.needs p) (false, [], [], [], [], (CV p L).reverse) with
   | some b =>
    refine CB ?_
    have d : decide ((0 : Int) <= ((0 : Nat) : Int) - 1) = false := by decide
    simp only [EL, d, cond_false, hr, Option.map_some]
   | none =>
    rw [FY]
    have d : decide ((0 : Int) <= ((0 : Nat) : Int) - 1) = false := by decide
    simp only [EL, d, cond_false, hr, Option.map_none]
  | succ k ih =>
   intro q hk hq
   obtain ⟨x, hx⟩ : ∃ x, L[k]? = some x := ⟨_, List.getElem?_eq_getElem (by omega)⟩
   have hql : q.length <= 24 := by rw [hq]; unfold CV; simp; omega
   have hd : L.drop k = x :: L.drop (k + 1) := by
    obtain ⟨h, e⟩ := List.getElem?_eq_some_iff.1 hx
    rw [List.drop_eq_getElem_cons h, e]
   rw [<- ih (q ++ [(Ar p x).getD ⟨0, 0⟩]) (by omega) (by rw [hd, hq]; unfold CV; simp)]
   refine C0 ?_
   have d : decide ((0 : Int) <= (k : Int)) = true := decide_eq_true (by omega)
   have e : (((k + 1 : Nat) : Int) - 1) = (k : Int) := by omega
   have w : AQ ((k : Int) - 1) = (k : Int) - 1 := by rw [CZ] <;> omega
   simp only [EL, d, cond_true, e, Ac, hx, Option.bind_some, D4 hn, Bc (show q.length + [(Ar p x).getD (⟨0, 0⟩ : AG)].length <= 4294967296 by simp; omega), w]
 have w : AQ ((L.length : Int) - 1) = (L.length : Int) - 1 := by rw [CZ] <;> omega
 rw [w]
 exact key L.length [] (Nat.le_refl _) (by simp [CV])
end
end Go.E
/- Plain Lean: the flank of a road: one round of its search; what holds behind it. No condition. -/
namespace Go.E
open Go
section
variable {p : AK} {n : A4} {r : AW}
def C5 (b : Bool) (z : List Int) (e : Int) : Bool × Bool × List Int := if e ∈ z then (true, b, z) else if 12 <= z.length then (false, true, z) else (true, b, z ++ [e])
def Ec (p : AK) (l : List AG) (x : AG) : List AG := match Ar p x with
 | some y => l ++ [y]
 | none => l
abbrev FS := Bool × List (AG × Bool) × List AX × List Int × List Int × List AG
def MB (p : AK) (st : List AU) (nd : List AX) (b : Bool) (vis : List (AG × Bool)) (g : List AX) (z h : List Int) (l : List AG) (x : AG) : FS :=
 if x.elem ∈ st.map (·.elem) \/ A9 vis x = true then (b, vis, g, z, h, l)
 else if 0 <= A1 p x /\ p.hard = false then (b, A5 x true vis, g, z, if A1 p x ∈ h then h else h ++ [A1 p x], l)
 else if Ah p x.elem = 4 then (true, A5 x true vis, g, z, h, l)
 else if Ah p x.elem = 2 then
  if x.fin = 0 then ((C5 b z x.elem).2.1, A5 x true vis, g, (C5 b z x.elem).2.2, h, if (C5 b z x.elem).1 then Ec p (Ec p l ⟨x.elem, 2⟩) ⟨x.elem, 1⟩ else l)
  else if ⟨x.elem, x.fin⟩ ∈ nd \/ ⟨x.elem, x.fin⟩ ∈ g then ((C5 b z x.elem).2.1, A5 x true vis, g, (C5 b z x.elem).2.2, h, if (C5 b z x.elem).1 then Ec p l ⟨x.elem, 0⟩ else l)
  else (b, A5 x true vis, if ⟨x.elem, AQ (3 - x.fin)⟩ ∈ g then g else g ++ [⟨x.elem, AQ (3 - x.fin)⟩], z, h, l)
 else match CD p x.elem x.fin 0 with
  | none => (b, A5 x true vis, g, z, h, l)
  | some o => ((C5 b z x.elem).2.1, A5 x true vis, g, (C5 b z x.elem).2.2, h, if (C5 b z x.elem).1 then Ec p l ⟨x.elem, o⟩ else l)
theorem Vf (b : Bool) (z : List Int) (e : Int) (hz : z.length <= 1000) : ((BA z e).bind fun y => bif y then some (true, b, z) else bif decide (12 <= (z.length : Int)) then some (false, true, z) else (Bk z [e]).bind fun y' => some (true, b, y') : Option (Bool × Bool × List Int)) = some (C5 b z e) := by
 rw [H0 z (by omega)]
 unfold C5
 simp only [Option.bind_some]
 by_cases c : e ∈ z
 .rw [decide_eq_true c, if_pos c]; rfl
 rw [decide_eq_false c, if_neg c]
 by_cases d : 12 <= z.length
 .rw [if_pos d, decide_eq_true (show (12 : Int) <= (z.length : Int) by omega)]; rfl
 rw [if_neg d, decide_eq_false (show ¬ (12 : Int) <= (z.length : Int) by omega)]
 simp only [cond_false, Bc (show z.length + [e].length <= 4294967296 by simp; omega), Option.bind_some]
theorem MC (hn : BT p n) (l : List AG) (x : AG) (hl : l.length <= 1000000) : ((BG n x).bind fun y => bif y.2 then (Bk l [y.1]).bind fun y' => some y' else some l : Option (List AG)) = some (Ec p l x) := by
 rw [D4 hn]
 unfold Ec
 cases Ar p x with
 | none => rfl
 | some y => simp only [Option.bind_some, Option.isSome_some, Option.getD_some, cond_true, Bc (show l.length + [y].length <= 4294967296 by simp; omega)]
theorem M8 (l : List AG) (x : AG) : (Ec p l x).length <= l.length + 1 := by unfold Ec; split <;> simp
theorem MD (hn : BT p n) (h1 : r.steps.length <= 12) (h2 : r.needs.length <= 1000) (b : Bool) (vis : List (AG × Bool)) (g : List AX) (z h : List Int) (l : List AG) (x : AG) (hg : g.length <= 1000) (hz : z.length <= 1000) (hh : h.length <= 1000) (hl : l.length <= 1000) :
  Bs n r r.steps r.needs p (b, vis, g, z, h, l ++ [x]) = some (.inl (MB p r.steps r.needs b vis g z h l x)) := by
 have d : decide ((0 : Int) < (((l ++ [x]).length : Nat) : Int)) = true := by simp
 have w := LL l x (by omega)
 have i1 := M4 x (rfl : l.length = l.length)
 have s1 := PC x (rfl : l.length = l.length)
 have own := Rq (⟨r.frm, r.to, r.fin, r.steps, r.needs, g, z, h, b⟩ : AW) (show r.steps.length < 1000000 by omega) x.elem
 have tz := Vf b z x.elem hz
 have vb : (Ae vis x).getD false = A9 vis x := rfl
 unfold Bs MB
 simp only [d, cond_true, w, i1, s1, own, Option.bind_some, vb]
 by_cases c : x.elem ∈ r.steps.map (·.elem) \/ A9 vis x = true
 .rw [if_pos c]
  rcases c with c | c
  .rw [decide_eq_true c]; rfl
  rw [c]; cases decide (x.elem ∈ r.steps.map (·.elem)) <;> rfl
 rw [if_neg c]
 have c1 : x.elem ∉ r.steps.map (·.elem) := fun h => c (.inl h)
 have c2 : A9 vis x = false := by cases hs : A9 vis x with | false => rfl | true => exact absurd (.inr hs) c
 rw [decide_eq_false c1, c2]
 simp only [cond_false, Option.bind_some, HO hn]
 by_cases k1 : 0 <= A1 p x /\ p.hard = false
 .rw [if_pos k1, decide_eq_true k1.1, k1.2]
  simp only [cond_true, Bool.not_false, Option.bind_some, H0 h (show h.length < 1000000 by omega)]
  by_cases m : A1 p x ∈ h
  .rw [decide_eq_true m, if_pos m]; rfl
  rw [decide_eq_false m, if_neg m]
  simp only [Bool.not_false, cond_true, Bc (show h.length + [A1 p x].length <= 4294967296 by simp; omega), Option.bind_some]
 rw [if_neg k1]
 have eb : (bif decide (0 <= A1 p x) then some (!p.hard) else some false : Option Bool) = some false := by
  by_cases a : 0 <= A1 p x
  .rw [decide_eq_true a]
   cases hp : p.hard with
   | true => rfl
   | false => exact absurd ⟨a, hp⟩ k1
  rw [decide_eq_false a]; rfl
 simp only [eb, Option.bind_some, cond_false, DC hn]
 by_cases k4 : Ah p x.elem = 4
 .rw [if_pos k4, k4]; rfl
 rw [if_neg k4]
 have b4 : (Ah p x.elem == 4) = false := beq_eq_false_iff_ne.2 k4
 simp only [b4, cond_false]
 by_cases k2 : Ah p x.elem = 2
 .rw [if_pos k2, k2]
  simp only [beq_self_eq_true, cond_true]
  by_cases f0 : x.fin = 0
  .rw [if_pos f0]
   have bf : (x.fin == 0) = true := by simp [f0]
   simp only [bf, cond_true, tz, Option.bind_some]
   have q1 := M8 (p := p) l ⟨x.elem, 2⟩
   cases ht : (C5 b z x.elem).1 with
   | true => simp only [cond_true, MC hn l ⟨x.elem, 2⟩ (by omega), Option.bind_some, MC hn (Ec p l ⟨x.elem, 2⟩) ⟨x.elem, 1⟩ (by omega), if_true]
   | false => simp only [cond_false, Option.bind_some, Bool.false_eq_true, if_false]
  rw [if_neg f0]
  have bf : (x.fin == 0) = false := beq_eq_false_iff_ne.2 f0
  simp only [bf, cond_false, MR r.needs (show r.needs.length < 1000000 by omega), MR g (show g.length < 1000000 by omega), Option.bind_some]
  have en : (bif decide ((⟨x.elem, x.fin⟩ : AX) ∈ r.needs) then some true else some (decide ((⟨x.elem, x.fin⟩ : AX) ∈ g)) : Option Bool) = some (decide ((⟨x.elem, x.fin⟩ : AX) ∈ r.needs \/ (⟨x.elem, x.fin⟩ : AX) ∈ g)) := by
   by_cases a : (⟨x.elem, x.fin⟩ : AX) ∈ r.needs
   .simp [a]
   simp [a]
  simp only [en, Option.bind_some]
  by_cases a : (⟨x.elem, x.fin⟩ : AX) ∈ r.needs \/ (⟨x.elem, x.fin⟩ : AX) ∈ g
  .rw [if_pos a, decide_eq_true a]
   simp only [cond_true, tz, Option.bind_some]
   cases ht : (C5 b z x.elem).1 with
   | true => simp only [cond_true, MC hn l ⟨x.elem, 0⟩ (by omega), Option.bind_some, if_true]
   | false => simp only [cond_false, Option.bind_some, Bool.false_eq_true, if_false]
  rw [if_neg a, decide_eq_false a]
  simp only [cond_false]
  by_cases m : (⟨x.elem, AQ (3 - x.fin)⟩ : AX) ∈ g
  .rw [decide_eq_true m, if_pos m]; rfl
  rw [decide_eq_false m, if_neg m]
  simp only [Bool.not_false, cond_true, Bc (show g.length + [(⟨x.elem, AQ (3 - x.fin)⟩ : AX)].length <= 4294967296 by simp; omega), Option.bind_some]
 rw [if_neg k2]
 have b2 : (Ah p x.elem == 2) = false := beq_eq_false_iff_ne.2 k2
 simp only [b2, cond_false, Gh, SO hn, Option.bind_some]
 cases ht : CD p x.elem x.fin 0 with
 | none => rfl
 | some o =>
  simp only [Option.isSome_some, cond_true, Option.getD_some, tz, Option.bind_some]
  cases htz : (C5 b z x.elem).1 with
  | true => simp only [cond_true, MC hn l ⟨x.elem, o⟩ (by omega), Option.bind_some, if_true]
  | false => simp only [cond_false, Bool.false_eq_true, if_false]
end
end Go.E
/- Plain Lean: the flank of a road: what holds of zone, guards and holds; the search ends (laws FlankAgain, FlankApart). No condition. -/
namespace Go.E
open Go
section
variable {p : AK} {n : A4} {r : AW}
structure QR (p : AK) (st : List AU) (z : List Int) : Prop where
 len : z.length <= 12
 nd : z.Nodup
 own : ∀ e ∈ z, e ∉ st.map (·.elem) /\ Ah p e ≠ 4
 rng : ∀ e ∈ z, Ah p e ≠ 0
structure Rs (p : AK) (st : List AU) (g : List AX) : Prop where
 ok : ∀ m ∈ g, m.elem ∉ st.map (·.elem) /\ Ah p m.elem = 2 /\ (m.pos = 1 \/ m.pos = 2)
 nd : g.Pairwise (fun a b => a.elem ≠ b.elem)
theorem Vg {st : List AU} {b : Bool} {z : List Int} {e : Int} (h : QR p st z) (h1 : e ∉ st.map (·.elem)) (h2 : Ah p e ≠ 4) (h3 : Ah p e ≠ 0) : QR p st (C5 b z e).2.2 := by
 unfold C5
 split
 .exact h
 rename_i hm
 split
 .exact h
 rename_i hl
 refine ⟨by simp; omega, ?_, fun a ha => ?_, fun a ha => ?_⟩
 .simp only
  rw [List.nodup_append]
  exact ⟨h.nd, by simp, fun a ha c hc => by simp at hc; subst hc; intro e; subst e; exact hm ha⟩
 .rcases List.mem_append.1 ha with ha | ha
  .exact h.own a ha
  simp at ha; subst ha; exact ⟨h1, h2⟩
 rcases List.mem_append.1 ha with ha | ha
 .exact h.rng a ha
 simp at ha; subst ha; exact h3
theorem HT {x y : AG} (h : Ar p x = some y) : y ∈ Bq p := KN h
theorem KR {l : List AG} {x y : AG} (h : y ∈ Ec p l x) : y ∈ l \/ y ∈ Bq p := by
 unfold Ec at h
 cases hx : Ar p x with
 | none => rw [hx] at h; exact .inl h
 | some z =>
  rw [hx] at h
  rcases List.mem_append.1 h with h | h
  .exact .inl h
  simp at h; subst h; exact .inr (HT hx)
structure FI (p : AK) (st : List AU) (M k : Nat) (vis : List (AG × Bool)) (g : List AX) (z h : List Int) (l : List AG) : Prop where
 zok : QR p st z
 gok : Rs p st g
 hold : p.hard = true -> h = []
 port : ∀ x ∈ l, x ∈ Bq p
 lg : g.length <= k
 lh : h.length <= k
 meas : k + l.length + 3 * LN p vis <= M
theorem Pr (hv : B9 p) {st : List AU} {nd : List AX} {M k : Nat} {b : Bool} {vis : List (AG × Bool)} {g : List AX} {z h : List Int} {l : List AG} {x : AG} (hi : FI p st M k vis g z h (l ++ [x])) {s : FS} (hs : s = MB p st nd b vis g z h l x) :
  FI p st M (k + 1) s.2.1 s.2.2.1 s.2.2.2.1 s.2.2.2.2.1 s.2.2.2.2.2 := by
 have hm := hi.meas
 simp only [List.length_append, List.length_cons, List.length_nil] at hm
 have hx : x ∈ Bq p := hi.port x (by simp)
 have hl : ∀ y ∈ l, y ∈ Bq p := fun y hy => hi.port y (by simp [hy])
 have hlg := hi.lg
 have hlh := hi.lh
 have hul := W3 (p := p) (vis := vis) x
 have hhas : D3 p x = true := by
  obtain ⟨i, hi⟩ := List.mem_iff_getElem?.1 hx
  exact hv.join.has i x hi
 unfold MB at hs
 by_cases c : x.elem ∈ st.map (·.elem) \/ A9 vis x = true
 .rw [if_pos c] at hs
  subst hs
  exact ⟨hi.zok, hi.gok, hi.hold, hl, by dsimp only; omega, by dsimp only; omega, by dsimp only; omega⟩
 rw [if_neg c] at hs
 have c1 : x.elem ∉ st.map (·.elem) := fun h => c (.inl h)
 have c2 : A9 vis x = false := by cases hs : A9 vis x with | false => rfl | true => exact absurd (.inr hs) c
 have hlt := Ue hx c2
 by_cases k1 : 0 <= A1 p x /\ p.hard = false
 .rw [if_pos k1] at hs
  subst hs
  refine ⟨hi.zok, hi.gok, fun hh => (by rw [k1.2] at hh; cases hh), hl, by dsimp only; omega, ?_, by dsimp only; omega⟩
  dsimp only
  split
  .omega
  simp; omega
 rw [if_neg k1] at hs
 by_cases k4 : Ah p x.elem = 4
 .rw [if_pos k4] at hs
  subst hs
  exact ⟨hi.zok, hi.gok, hi.hold, hl, by dsimp only; omega, by dsimp only; omega, by dsimp only; omega⟩
 rw [if_neg k4] at hs
 have k0 : Ah p x.elem ≠ 0 := fun e => by
  obtain ⟨f1, f2, f3⟩ := GZ hhas
  rw [e] at f3
  simp [CY] at f3
  omega
 have hz := Vg (b := b) hi.zok c1 k4 k0
 have p1 : ∀ y, (Ec p l y).length <= l.length + 1 := fun y => M8 l y
 by_cases k2 : Ah p x.elem = 2
 .rw [if_pos k2] at hs
  by_cases f0 : x.fin = 0
  .rw [if_pos f0] at hs
   subst hs
   refine ⟨hz, hi.gok, hi.hold, fun y hy => ?_, by dsimp only; omega, by dsimp only; omega, ?_⟩
   .dsimp only at hy
    split at hy
    .rcases KR hy with hy | hy
     .rcases KR hy with hy | hy
      .exact hl y hy
      exact hy
     exact hy
    exact hl y hy
   dsimp only
   have q1 := p1 ⟨x.elem, 2⟩
   have q2 := M8 (p := p) (Ec p l ⟨x.elem, 2⟩) ⟨x.elem, 1⟩
   split <;> omega
  rw [if_neg f0] at hs
  by_cases a : (⟨x.elem, x.fin⟩ : AX) ∈ nd \/ (⟨x.elem, x.fin⟩ : AX) ∈ g
  .rw [if_pos a] at hs
   subst hs
   refine ⟨hz, hi.gok, hi.hold, fun y hy => ?_, by dsimp only; omega, by dsimp only; omega, ?_⟩
   .dsimp only at hy
    split at hy
    .rcases KR hy with hy | hy
     .exact hl y hy
     exact hy
    exact hl y hy
   dsimp only
   have q1 := p1 ⟨x.elem, 0⟩
   split <;> omega
  rw [if_neg a] at hs
  subst hs
  obtain ⟨f1, f2, f3⟩ := GZ hhas
  rw [k2] at f3
  simp [CY] at f3
  have hw : AQ (3 - x.fin) = 3 - x.fin := by rw [CZ] <;> omega
  refine ⟨hi.zok, ?_, hi.hold, hl, ?_, by dsimp only; omega, by dsimp only; omega⟩
  .dsimp only
   split
   .exact hi.gok
   rename_i hng
   refine ⟨fun m hm => ?_, ?_⟩
   .rcases List.mem_append.1 hm with hm | hm
    .exact hi.gok.ok m hm
    simp at hm; subst hm; exact ⟨c1, k2, by rw [hw]; simp only; omega⟩
   rw [List.pairwise_append]
   refine ⟨hi.gok.nd, by simp, fun m hm q hq => ?_⟩
   simp at hq
   subst hq
   intro he
   simp only at he
   obtain ⟨_, _, hp⟩ := hi.gok.ok m hm
   have e1 : m = ⟨x.elem, m.pos⟩ := by cases m; simp only at he; subst he; rfl
   by_cases e : m.pos = x.fin
   .rw [e] at e1; rw [e1] at hm; exact a (.inr hm)
   have : m.pos = 3 - x.fin := by omega
   rw [this, <- hw] at e1; rw [e1] at hm; exact hng hm
  dsimp only
  split
  .omega
  simp; omega
 rw [if_neg k2] at hs
 cases ht : CD p x.elem x.fin 0 with
 | none =>
  rw [ht] at hs
  subst hs
  exact ⟨hi.zok, hi.gok, hi.hold, hl, by dsimp only; omega, by dsimp only; omega, by dsimp only; omega⟩
 | some o =>
  rw [ht] at hs
  subst hs
  refine ⟨hz, hi.gok, hi.hold, fun y hy => ?_, by dsimp only; omega, by dsimp only; omega, ?_⟩
  .dsimp only at hy
   split at hy
   .rcases KR hy with hy | hy
    .exact hl y hy
    exact hy
   exact hl y hy
  dsimp only
  have q1 := p1 ⟨x.elem, o⟩
  split <;> omega
theorem SU (hv : B9 p) (hn : BT p n) (h1 : r.steps.length <= 12) (h2 : r.needs.length <= 1000) : ∃ g z h b, CE n r = some ⟨r.frm, r.to, r.fin, r.steps, r.needs, g, z, h, b⟩ /\ QR p r.steps z /\ Rs p r.steps g /\ (p.hard = true -> h = []) /\ g.length <= 700 /\ h.length <= 700 := by
 have hj := hv.nj
 have hp := Gk (p := p) r.steps
 rw [G4 hv hn h1 h2]
 obtain ⟨R, e1, g, z, h, b, rfl, e2⟩ := Dt (step := Bs n r r.steps r.needs p) (Post := fun R => ∃ g z h b, R = (⟨r.frm, r.to, r.fin, r.steps, r.needs, g, z, h, b⟩ : AW) /\ QR p r.steps z /\ Rs p r.steps g /\ (p.hard = true -> h = []) /\ g.length <= 700 /\ h.length <= 700)
  (fun k s => FI p r.steps 700 k s.2.1 s.2.2.1 s.2.2.2.1 s.2.2.2.2.1 s.2.2.2.2.2) 700 (s := (false, [], [], [], [], (CV p (CN p r.steps)).reverse)) (by
   rintro k ⟨b, vis, g, z, h, l⟩ hi
   have hm := hi.meas
   have hlg := hi.lg
   have hlh := hi.lh
   have hzl := hi.zok.len
   dsimp only at hm hlg hlh hzl hi
   rcases List.eq_nil_or_concat l with rfl | ⟨l', x, rfl⟩
   .left
    exact ⟨_, rfl, g, z, h, b, rfl, hi.zok, hi.gok, hi.hold, by omega, by omega⟩
   .right
    rw [List.concat_eq_append] at hi hm ⊢
    simp only [List.length_append, List.length_cons, List.length_nil] at hm
    refine ⟨by omega, _, MD hn h1 h2 b vis g z h l' x (by omega) (by omega) (by omega) (by omega), Pr hv hi rfl⟩) (by
   refine ⟨⟨by simp, by simp, by simp, by simp⟩, ⟨by simp, by simp⟩, fun _ => rfl, fun y hy => ?_, by simp, by simp, ?_⟩
   .have := List.mem_reverse.1 hy
    obtain ⟨x, hx, rfl⟩ := List.mem_map.1 this
    obtain ⟨y, hy⟩ := Hz hx
    rw [hy]
    exact HT hy
   have h3 : LN p [] <= (Bq p).length := List.length_filter_le _ _
   have h4 : (Bq p).length = 2 * p.joins.length := FL _
   simp only [CV, List.length_reverse, List.length_map]
   omega)
 exact ⟨g, z, h, b, e1, e2⟩
theorem Tq {r' : AW} (e1 : r'.frm = r.frm) (e2 : r'.to = r.to) (e3 : r'.fin = r.fin) (st : List AU) (nd : List AX) : Bs n r' st nd p = Bs n r st nd p := by
 funext s
 unfold Bs
 rw [e1, e2, e3]
end
end Go.E
/- Plain Lean: zone, guards and holds of a road's flank (law FlankApart). No condition. -/
namespace Go.E
open Go
section
variable {p : AK} {n : A4} {r : AW}
end
end Go.E
/- Plain Lean: one call of the document's search for the flank, in a clean form. No condition. -/
namespace Go.E
open Go
section
variable {p : AK} {n : A4} {r : AW}
end
end Go.E
/- Plain Lean: the document's search for the flank and the program's loop: one call is as good as one port on the stack. No condition. -/
namespace Go.E
open Go
section
variable {p : AK} {n : A4} {r : AW}
end
end Go.E
/- Plain Lean: the flank of a road: the document's answer and the program's are one (law FlankOfs). No condition. -/
namespace Go.E
open Go
section
variable {p : AK} {n : A4} {r : AW}
end
end Go.E
/- Plain Lean: whether a road is ready, by the program and by the document (law FlankReady). No condition. -/
namespace Go.E
open Go
theorem OB {α β : Type} {l : List α} {step : Int -> Option (Int ⊕ β)} (bad : α -> Bool) (x : β) (fin : Option β) (h0 : step (l.length : Int) = fin.map .inr)
  (h1 : ∀ (i : Nat) a, l[i]? = some a -> step (i : Int) = if bad a = true then some (.inr x) else some (.inl ((i + 1 : Nat) : Int))) : AO step 0 = if l.any bad = true then some x else fin := by
 refine Iz (γ := Unit) l (fun i _ => (i : Int)) (fun _ _ r => if r.any bad = true then some x else fin) (fun _ => ?_) (fun i c a r ha hi => ?_) ()
 .simpa using h0
 rw [h1 i a ha]
 cases hb : bad a with
 | true => left; simp [hb]
 | false => right; exact ⟨(), by simp, by simp [hb]⟩
end Go.E
/- Plain Lean: a road that is ready is so no more when one thing is otherwise (law FlankOne). No condition. -/
namespace Go.E
open Go
section
variable {p : AK} {n : A4} {r : AW}
structure Xp (p : AK) (st : List AU) (nd : List AX) : Prop where
 ok : ∀ m ∈ nd, m.elem ∈ st.map (·.elem) /\ Ah p m.elem = 2 /\ (m.pos = 1 \/ m.pos = 2)
 nd : nd.Pairwise (fun a b => a.elem ≠ b.elem)
theorem Vh {s : Int} (h : r ∈ FF p s) : Xp p r.steps r.needs := by
 obtain ⟨sg, nd, l, h1, h2, h3, h4, h5, h6, h7⟩ := HS (Cf h).1
 have := Jw (by simp) (by simp) h4
 rw [h7]
 exact ⟨fun m hm => by simpa using this.1 m hm, this.2.1⟩
theorem WV {st : List AU} {nd g : List AX} (h1 : Xp p st nd) (h2 : Rs p st g) : (∀ m ∈ nd ++ g, 0 <= m.elem /\ m.elem < p.elems.length /\ (m.pos = 1 \/ m.pos = 2)) /\ (nd ++ g).Pairwise (fun a b => a.elem ≠ b.elem) := by
 refine ⟨fun m hm => ?_, ?_⟩
 .have hk : Ah p m.elem = 2 /\ (m.pos = 1 \/ m.pos = 2) := by
   rcases List.mem_append.1 hm with hm | hm
   .exact (h1.ok m hm).2
   exact (h2.ok m hm).2
  have := L7 (p := p) (e := m.elem) (by rw [hk.1]; decide)
  exact ⟨this.1, this.2, hk.2⟩
 rw [List.pairwise_append]
 refine ⟨h1.nd, h2.nd, fun a ha b hb e => ?_⟩
 have := (h1.ok a ha).1
 rw [e] at this
 exact (h2.ok b hb).1 this
end
end Go.E
/- Plain Lean: what a road's flank keeps: nobody comes in but from its zone (law FlankKeeps). No condition. -/
namespace Go.E
open Go
section
variable {p : AK} {n : A4} {r : AW}
theorem WW {e i x o : Int} (h : Ah p e = 2) (hi : i ≠ 0) (ht : CD p e i x = some o) : o = 0 /\ x = i := by
 unfold CD By at ht
 split at ht
 .rw [if_neg (by omega), if_neg (by omega)] at ht
  simp only [D5] at ht
  split at ht
  .rename_i hc
   cases ht
   rcases hc with hc | hc
   .exact absurd hc hi
   exact ⟨rfl, hc.symm⟩
  cases ht
 cases ht
theorem WX {e x o : Int} (h : Ah p e = 2) (ht : CD p e 0 x = some o) : o = 1 \/ o = 2 := by
 unfold CD By at ht
 split at ht
 .rw [if_neg (by omega), if_neg (by omega), if_pos rfl] at ht
  simp only [D5] at ht
  split at ht
  .cases ht; exact .inl rfl
  split at ht
  .cases ht; exact .inr rfl
  cases ht
 cases ht
def S1 (st : List AU) (vis : List (AG × Bool)) (l : List AG) (y : AG) : Prop := y ∈ l \/ A9 vis y = true \/ y.elem ∈ st.map (·.elem)
structure Rt (p : AK) (nd g : List AX) (z h : List Int) (at_ : AG -> Prop) (x : AG) : Prop where
 held : 0 <= A1 p x /\ p.hard = false -> A1 p x ∈ h
 gate : ¬ (0 <= A1 p x /\ p.hard = false) -> Ah p x.elem ≠ 4
 toe : ¬ (0 <= A1 p x /\ p.hard = false) -> Ah p x.elem = 2 -> x.fin = 0 -> x.elem ∈ z /\ ∀ o, (o = 1 \/ o = 2) -> ∀ y, Ar p ⟨x.elem, o⟩ = some y -> at_ y
 leg : ¬ (0 <= A1 p x /\ p.hard = false) -> Ah p x.elem = 2 -> x.fin ≠ 0 -> (x.elem ∈ z /\ ∀ y, Ar p ⟨x.elem, 0⟩ = some y -> at_ y) \/ (⟨x.elem, AQ (3 - x.fin)⟩ : AX) ∈ g
 other : ¬ (0 <= A1 p x /\ p.hard = false) -> Ah p x.elem ≠ 2 -> ∀ o, CD p x.elem x.fin 0 = some o -> x.elem ∈ z /\ ∀ y, Ar p ⟨x.elem, o⟩ = some y -> at_ y
theorem Rt.mono {nd g g' : List AX} {z z' h h' : List Int} {a a' : AG -> Prop} {x : AG} (hk : Rt p nd g z h a x) (hg : ∀ m ∈ g, m ∈ g') (hz : ∀ m ∈ z, m ∈ z') (hh : ∀ m ∈ h, m ∈ h') (ha : ∀ y, a y -> a' y) : Rt p nd g' z' h' a' x :=
 ⟨fun c => hh _ (hk.held c), hk.gate, fun c k f => ⟨hz _ (hk.toe c k f).1, fun o ho y hy => ha _ ((hk.toe c k f).2 o ho y hy)⟩,
  fun c k f => (hk.leg c k f).imp (fun q => ⟨hz _ q.1, fun y hy => ha _ (q.2 y hy)⟩) (hg _), fun c k o ho => ⟨hz _ (hk.other c k o ho).1, fun y hy => ha _ ((hk.other c k o ho).2 y hy)⟩⟩
structure KI (p : AK) (st : List AU) (nd : List AX) (b : Bool) (vis : List (AG × Bool)) (g : List AX) (z h : List Int) (l : List AG) : Prop where
 seen : b = false -> ∀ x, A9 vis x = true -> Rt p nd g z h (S1 st vis l) x
 init : ∀ x y, x ∈ CN p st -> Ar p x = some y -> S1 st vis l y
theorem KI.next {st : List AU} {nd : List AX} {b b' : Bool} {vis vis' : List (AG × Bool)} {g g' : List AX} {z z' h h' : List Int} {l l' : List AG} {x : AG} (hi : KI p st nd b vis g z h (l ++ [x]))
  (hb : b' = false -> b = false) (hv : ∀ y, A9 vis y = true -> A9 vis' y = true) (hv2 : ∀ y, A9 vis' y = true -> A9 vis y = true \/ y = x) (hl : ∀ y ∈ l, y ∈ l') (hx : A9 vis' x = true \/ x.elem ∈ st.map (·.elem))
  (hg : ∀ m ∈ g, m ∈ g') (hz : ∀ m ∈ z, m ∈ z') (hh : ∀ m ∈ h, m ∈ h') (hr : b' = false -> A9 vis x = false -> A9 vis' x = true -> Rt p nd g' z' h' (S1 st vis' l') x) : KI p st nd b' vis' g' z' h' l' := by
 have ha : ∀ y, S1 st vis (l ++ [x]) y -> S1 st vis' l' y := by
  rintro y (hy | hy | hy)
  .rcases List.mem_append.1 hy with hy | hy
   .exact .inl (hl y hy)
   simp at hy; subst hy; exact .inr hx
  .exact .inr (.inl (hv y hy))
  exact .inr (.inr hy)
 refine ⟨fun hb' y hy => ?_, fun y q hy hq => ha q (hi.init y q hy hq)⟩
 cases hs : A9 vis y with
 | true => exact (hi.seen (hb hb') y hs).mono hg hz hh ha
 | false =>
  rcases hv2 y hy with hy2 | rfl
  .rw [hs] at hy2; cases hy2
  exact hr hb' hs hy
theorem M9 {b : Bool} {z : List Int} {e m : Int} (hm : m ∈ z) : m ∈ (C5 b z e).2.2 := by
 unfold C5
 split
 .exact hm
 split
 .exact hm
 exact List.mem_append_left _ hm
theorem Fg {b : Bool} {z : List Int} {e : Int} (h : (C5 b z e).2.1 = false) : b = false /\ (C5 b z e).1 = true /\ e ∈ (C5 b z e).2.2 := by
 unfold C5 at *
 split
 .rename_i c; rw [if_pos c] at h; exact ⟨h, rfl, c⟩
 rename_i c
 rw [if_neg c] at h
 split
 .rename_i d; rw [if_pos d] at h; cases h
 rename_i d; rw [if_neg d] at h; exact ⟨h, rfl, by simp⟩
theorem I3 {l : List AG} {x y : AG} (h : y ∈ l) : y ∈ Ec p l x := by
 unfold Ec
 split
 .exact List.mem_append_left _ h
 exact h
theorem KS {l : List AG} {x y : AG} (h : Ar p x = some y) : y ∈ Ec p l x := by
 unfold Ec
 rw [h]
 simp
theorem WY {st : List AU} {nd : List AX} {b : Bool} {vis : List (AG × Bool)} {g : List AX} {z h : List Int} {l : List AG} {x : AG} (hi : KI p st nd b vis g z h (l ++ [x])) {s : FS} (hs : s = MB p st nd b vis g z h l x) :
  KI p st nd s.1 s.2.1 s.2.2.1 s.2.2.2.1 s.2.2.2.2.1 s.2.2.2.2.2 := by
 have sx : A9 (A5 x true vis) x = true := (Ff vis x x).2 (.inl rfl)
 have s1 : ∀ y, A9 vis y = true -> A9 (A5 x true vis) y = true := fun y hy => (Ff vis x y).2 (.inr hy)
 have s2 : ∀ y, A9 (A5 x true vis) y = true -> A9 vis y = true \/ y = x := fun y hy => ((Ff vis x y).1 hy).symm
 unfold MB at hs
 by_cases c : x.elem ∈ st.map (·.elem) \/ A9 vis x = true
 .rw [if_pos c] at hs
  subst hs
  exact hi.next (fun h => h) (fun _ h => h) (fun _ h => .inl h) (fun _ h => h) c.symm (fun _ h => h) (fun _ h => h) (fun _ h => h) fun _ hn hy => (by rw [hn] at hy; cases hy)
 rw [if_neg c] at hs
 by_cases k1 : 0 <= A1 p x /\ p.hard = false
 .rw [if_pos k1] at hs
  subst hs
  refine hi.next (fun h => h) s1 s2 (fun _ h => h) (.inl sx) (fun _ h => h) (fun _ h => h) (fun m hm => ?_) fun _ _ _ => ⟨fun _ => ?_, fun q => absurd k1 q, fun q => absurd k1 q, fun q => absurd k1 q, fun q => absurd k1 q⟩
  .dsimp only; split
   .exact hm
   exact List.mem_append_left _ hm
  dsimp only; split
  .assumption
  simp
 rw [if_neg k1] at hs
 by_cases k4 : Ah p x.elem = 4
 .rw [if_pos k4] at hs
  subst hs
  exact hi.next (fun h => (by cases h)) s1 s2 (fun _ h => h) (.inl sx) (fun _ h => h) (fun _ h => h) (fun _ h => h) fun h => (by cases h)
 rw [if_neg k4] at hs
 by_cases k2 : Ah p x.elem = 2
 .rw [if_pos k2] at hs
  by_cases f0 : x.fin = 0
  .rw [if_pos f0] at hs
   subst hs
   refine hi.next (fun hb => (Fg hb).1) s1 s2 (fun y hy => ?_) (.inl sx) (fun _ h => h) (fun _ h => M9 h) (fun _ h => h) fun hb _ _ => ⟨fun q => absurd q k1, fun _ => k4, fun _ _ _ => ⟨(Fg hb).2.2, fun o ho y hy => .inl ?_⟩, fun _ _ f => absurd f0 f, fun _ q => absurd k2 q⟩
   .dsimp only; split
    .exact I3 (I3 hy)
    exact hy
   dsimp only
   rw [if_pos (Fg hb).2.1]
   rcases ho with rfl | rfl
   .exact KS hy
   exact I3 (KS hy)
  rw [if_neg f0] at hs
  by_cases a : (⟨x.elem, x.fin⟩ : AX) ∈ nd \/ (⟨x.elem, x.fin⟩ : AX) ∈ g
  .rw [if_pos a] at hs
   subst hs
   refine hi.next (fun hb => (Fg hb).1) s1 s2 (fun y hy => ?_) (.inl sx) (fun _ h => h) (fun _ h => M9 h) (fun _ h => h) fun hb _ _ => ⟨fun q => absurd q k1, fun _ => k4, fun _ _ f => absurd f f0, fun _ _ _ => .inl ⟨(Fg hb).2.2, fun y hy => .inl ?_⟩, fun _ q => absurd k2 q⟩
   .dsimp only; split
    .exact I3 hy
    exact hy
   dsimp only
   rw [if_pos (Fg hb).2.1]
   exact KS hy
  rw [if_neg a] at hs
  subst hs
  refine hi.next (fun h => h) s1 s2 (fun _ h => h) (.inl sx) (fun m hm => ?_) (fun _ h => h) (fun _ h => h) fun hb _ _ => ⟨fun q => absurd q k1, fun _ => k4, fun _ _ f => absurd f f0, fun _ _ _ => .inr ?_, fun _ q => absurd k2 q⟩
  .dsimp only; split
   .exact hm
   exact List.mem_append_left _ hm
  dsimp only; split
  .assumption
  simp
 rw [if_neg k2] at hs
 cases ht : CD p x.elem x.fin 0 with
 | none =>
  rw [ht] at hs
  subst hs
  exact hi.next (fun h => h) s1 s2 (fun _ h => h) (.inl sx) (fun _ h => h) (fun _ h => h) (fun _ h => h) fun hb _ _ => ⟨fun q => absurd q k1, fun _ => k4, fun _ q => absurd q k2, fun _ q => absurd q k2, fun _ _ o ho => (by rw [ht] at ho; cases ho)⟩
 | some o =>
  rw [ht] at hs
  subst hs
  refine hi.next (fun hb => (Fg hb).1) s1 s2 (fun y hy => ?_) (.inl sx) (fun _ h => h) (fun _ h => M9 h) (fun _ h => h) fun hb _ _ => ⟨fun q => absurd q k1, fun _ => k4, fun _ q => absurd q k2, fun _ q => absurd q k2, fun _ _ o' ho => ?_⟩
  .dsimp only; split
   .exact I3 hy
   exact hy
  rw [ht] at ho
  cases ho
  refine ⟨(Fg hb).2.2, fun y hy => .inl ?_⟩
  dsimp only
  rw [if_pos (Fg hb).2.1]
  exact KS hy
theorem SV (hv : B9 p) (hn : BT p n) (h1 : r.steps.length <= 12) (h2 : r.needs.length <= 1000) : ∃ g z h b, CE n r = some ⟨r.frm, r.to, r.fin, r.steps, r.needs, g, z, h, b⟩ /\ QR p r.steps z /\ Rs p r.steps g /\ (p.hard = true -> h = []) /\ g.length <= 700 /\ h.length <= 700 /\
  ∃ vis, KI p r.steps r.needs b vis g z h [] := by
 have hj := hv.nj
 have hp := Gk (p := p) r.steps
 rw [G4 hv hn h1 h2]
 obtain ⟨R, e1, g, z, h, b, rfl, e2⟩ := Dt (step := Bs n r r.steps r.needs p) (Post := fun R => ∃ g z h b, R = (⟨r.frm, r.to, r.fin, r.steps, r.needs, g, z, h, b⟩ : AW) /\ QR p r.steps z /\ Rs p r.steps g /\ (p.hard = true -> h = []) /\ g.length <= 700 /\ h.length <= 700 /\ ∃ vis, KI p r.steps r.needs b vis g z h [])
  (fun k s => FI p r.steps 700 k s.2.1 s.2.2.1 s.2.2.2.1 s.2.2.2.2.1 s.2.2.2.2.2 /\ KI p r.steps r.needs s.1 s.2.1 s.2.2.1 s.2.2.2.1 s.2.2.2.2.1 s.2.2.2.2.2) 700 (s := (false, [], [], [], [], (CV p (CN p r.steps)).reverse)) (by
   rintro k ⟨b, vis, g, z, h, l⟩ ⟨hi, hk⟩
   have hm := hi.meas
   have hlg := hi.lg
   have hlh := hi.lh
   have hzl := hi.zok.len
   dsimp only at hm hlg hlh hzl hi hk
   rcases List.eq_nil_or_concat l with rfl | ⟨l', x, rfl⟩
   .left
    exact ⟨_, rfl, g, z, h, b, rfl, hi.zok, hi.gok, hi.hold, by omega, by omega, vis, hk⟩
   .right
    rw [List.concat_eq_append] at hi hm hk ⊢
    simp only [List.length_append, List.length_cons, List.length_nil] at hm
    refine ⟨by omega, _, MD hn h1 h2 b vis g z h l' x (by omega) (by omega) (by omega) (by omega), Pr hv hi rfl, WY hk rfl⟩) (by
   refine ⟨⟨⟨by simp, by simp, by simp, by simp⟩, ⟨by simp, by simp⟩, fun _ => rfl, fun y hy => ?_, by simp, by simp, ?_⟩, fun _ x hx => ?_, fun x y hx hy => .inl ?_⟩
   .have := List.mem_reverse.1 hy
    obtain ⟨x, hx, rfl⟩ := List.mem_map.1 this
    obtain ⟨y, hy⟩ := Hz hx
    rw [hy]
    exact HT hy
   .have h3 : LN p [] <= (Bq p).length := List.length_filter_le _ _
    have h4 : (Bq p).length = 2 * p.joins.length := FL _
    simp only [CV, List.length_reverse, List.length_map]
    omega
   .simp [A9, Ae] at hx
   rw [List.mem_reverse]
   exact List.mem_map.2 ⟨x, hx, by rw [hy]; rfl⟩)
 exact ⟨g, z, h, b, e1, e2⟩
end
end Go.E
/- Plain Lean: whether a road's flank keeps all others out, told without an order (MF, NB), and the program's answer. No condition. -/
namespace Go.E
open Go
def DD (nl : List AX) (e : Int) : Option Int := (nl.find? fun m => m.elem == e).map (·.pos)
def KT (lay : Int -> Option Int) (e : Int) (w : BV) : List Int := if w.pos = 0 \/ lay e = none \/ lay e = some w.pos then [w.out] else []
def Ci (p : AK) (lay : Int -> Option Int) (x : AG) : List Int := (By p x.elem x.fin).flatMap (KT lay x.elem)
def Ed (p : AK) (holds : List Int) (x : AG) : Prop := p.hard = false /\ 0 <= A1 p x /\ A1 p x ∈ holds
instance (p : AK) (holds : List Int) (x : AG) : Decidable (Ed p holds x) := by unfold Ed; infer_instance
def HA (p : AK) (lay : Int -> Option Int) (zone : List Int) (x : AG) : Prop := Ah p x.elem ≠ 4 /\ (Ci p lay x ≠ [] -> x.elem ∈ zone)
instance (p : AK) (lay : Int -> Option Int) (zone : List Int) (x : AG) : Decidable (HA p lay zone x) := by unfold HA; infer_instance
inductive Jz (p : AK) (lay : Int -> Option Int) (holds : List Int) (st : List AU) : AG -> Prop
 | init {x y : AG} : x ∈ CN p st -> Ar p x = some y -> Jz p lay holds st y
 | step {x y : AG} {o : Int} : Jz p lay holds st x -> x.elem ∉ st.map (·.elem) -> ¬ Ed p holds x -> o ∈ Ci p lay x -> Ar p ⟨x.elem, o⟩ = some y -> Jz p lay holds st y
def MF (p : AK) (lay : Int -> Option Int) (holds zone : List Int) (st : List AU) : Prop := ∀ x, Jz p lay holds st x -> x.elem ∉ st.map (·.elem) -> ¬ Ed p holds x -> HA p lay zone x
def HB (nl : List AX) : Prop := ∀ a ∈ nl, ∀ b ∈ nl, a.elem = b.elem -> a.pos = b.pos
structure NB (p : AK) (r : AW) : Prop where
 cons : HB (r.needs ++ r.guards)
 guard : ∀ m ∈ r.guards, Ah p m.elem = 2 /\ (m.pos = 1 \/ m.pos = 2)
 zone : ∀ e ∈ r.zone, 0 <= e /\ e < p.elems.length /\ e ∉ r.steps.map (·.elem)
 hold : ∀ s ∈ r.holds, 0 <= s /\ s < p.signals.length
 kept : MF p (DD (r.needs ++ r.guards)) r.holds r.zone r.steps
theorem PH (p : AK) (lay : Int -> Option Int) (x : AG) : (Ci p lay x).length <= 2 := by
 have h1 := HP p x.elem x.fin
 have h2 := HR (KT lay x.elem) 1 (By p x.elem x.fin) (fun w _ => by unfold KT; split <;> simp)
 unfold Ci
 omega
theorem Tr {p : AK} {lay : Int -> Option Int} {x : AG} {o : Int} : o ∈ Ci p lay x ↔ ∃ w ∈ By p x.elem x.fin, (w.pos = 0 \/ lay x.elem = none \/ lay x.elem = some w.pos) /\ w.out = o := by
 unfold Ci
 rw [List.mem_flatMap]
 constructor
 .rintro ⟨w, hw, ho⟩
  unfold KT at ho
  split at ho
  .simp at ho; exact ⟨w, hw, ‹_›, ho.symm⟩
  cases ho
 rintro ⟨w, hw, hc, rfl⟩
 exact ⟨w, hw, by unfold KT; rw [if_pos hc]; simp⟩
section
variable {p : AK} {n : A4} {r : AW} {lay : Int -> Option Int} {holds zone : List Int} {st : List AU}
theorem Jz.in_ports {x : AG} (h : Jz p lay holds st x) : x ∈ Bq p := by
 cases h with
 | init _ h2 => exact HT h2
 | step _ _ _ _ h2 => exact HT h2
structure GI (p : AK) (lay : Int -> Option Int) (holds zone : List Int) (st : List AU) (V : AG -> Prop) (q : List AG) : Prop where
 arr : ∀ x ∈ q, Jz p lay holds st x
 full : ∀ x, V x -> x.elem ∉ st.map (·.elem) -> ¬ Ed p holds x -> HA p lay zone x /\ ∀ o ∈ Ci p lay x, ∀ y, Ar p ⟨x.elem, o⟩ = some y -> y ∈ q \/ V y
 init : ∀ x y, x ∈ CN p st -> Ar p x = some y -> y ∈ q \/ V y
theorem GI.done {V : AG -> Prop} (h : GI p lay holds zone st V []) : MF p lay holds zone st := by
 have key : ∀ x, Jz p lay holds st x -> V x := by
  intro x hx
  induction hx with
  | init h1 h2 => exact (h.init _ _ h1 h2).resolve_left (by simp)
  | step _ h2 h3 h4 h5 ih => exact ((h.full _ ih h2 h3).2 _ h4 _ h5).resolve_left (by simp)
 exact fun x hx h1 h2 => (h.full x (key x hx) h1 h2).1
theorem GI.bad {V : AG -> Prop} {x : AG} {q : List AG} (h : GI p lay holds zone st V (x :: q)) (h1 : x.elem ∉ st.map (·.elem)) (h2 : ¬ Ed p holds x) (hb : ¬ HA p lay zone x) : ¬ MF p lay holds zone st :=
 fun hk => hb (hk x (h.arr x (by simp)) h1 h2)
theorem GI.next {V V' : AG -> Prop} {x : AG} {q q' : List AG} (h : GI p lay holds zone st V (x :: q)) (hV : ∀ y, V y -> V' y) (hx : V' x) (hV2 : ∀ y, V' y -> V y \/ y = x) (hq : ∀ y ∈ q, y ∈ q') (hq2 : ∀ y ∈ q', Jz p lay holds st y)
  (hf : ¬ V x -> x.elem ∉ st.map (·.elem) -> ¬ Ed p holds x -> HA p lay zone x /\ ∀ o ∈ Ci p lay x, ∀ y, Ar p ⟨x.elem, o⟩ = some y -> y ∈ q' \/ V' y) : GI p lay holds zone st V' q' := by
 have keep : ∀ y, y ∈ x :: q \/ V y -> y ∈ q' \/ V' y := by
  rintro y (hy | hy)
  .rcases List.mem_cons.1 hy with rfl | hy
   .exact .inr hx
   exact .inl (hq y hy)
  exact .inr (hV y hy)
 refine ⟨hq2, fun y hy h1 h2 => ?_, fun a b ha hb => keep b (h.init a b ha hb)⟩
 by_cases c : V y
 .have := h.full y c h1 h2
  exact ⟨this.1, fun o ho z hz => keep z (this.2 o ho z hz)⟩
 rcases hV2 y hy with hy2 | rfl
 .exact absurd hy2 c
 exact hf c h1 h2
def I4 (p : AK) (e : Int) (l : List Int) : List AG := l.flatMap fun o => match Ar p ⟨e, o⟩ with
 | some y => [y]
 | none => []
theorem PI {e o : Int} {l : List Int} {y : AG} : y ∈ I4 p e l ↔ ∃ o ∈ l, Ar p ⟨e, o⟩ = some y := by
 unfold I4
 rw [List.mem_flatMap]
 constructor
 .rintro ⟨o, ho, hy⟩
  cases hx : Ar p ⟨e, o⟩ with
  | none => rw [hx] at hy; cases hy
  | some z => rw [hx] at hy; simp at hy; subst hy; exact ⟨o, ho, hx⟩
 rintro ⟨o, ho, hy⟩
 exact ⟨o, ho, by rw [hy]; simp⟩
theorem Ts (e : Int) (l : List Int) : (I4 p e l).length <= l.length := by
 have := HR (fun o => match Ar p ⟨e, o⟩ with | some y => [y] | none => []) 1 l (fun o _ => by split <;> simp)
 unfold I4
 omega
theorem GI.go {V V' : AG -> Prop} {x : AG} {q : List AG} (h : GI p lay holds zone st V (x :: q)) (h1 : x.elem ∉ st.map (·.elem)) (h2 : ¬ Ed p holds x) (hg : HA p lay zone x) (hV : ∀ y, V' y ↔ V y \/ y = x) : GI p lay holds zone st V' (q ++ I4 p x.elem (Ci p lay x)) := by
 have hx := h.arr x (by simp)
 refine h.next (fun y hy => (hV y).2 (.inl hy)) ((hV x).2 (.inr rfl)) (fun y hy => (hV y).1 hy) (fun y hy => List.mem_append_left _ hy) (fun y hy => ?_) (fun _ _ _ => ⟨hg, fun o ho y hy => .inl (List.mem_append_right _ (PI (o := o) |>.2 ⟨o, ho, hy⟩))⟩)
 rcases List.mem_append.1 hy with hy | hy
 .exact h.arr y (by simp [hy])
 obtain ⟨o, ho, hy⟩ := (PI (o := 0)).1 hy
 exact .step hx h1 h2 ho hy
theorem Vi (hn : BT p n) (x : AG) (m : List (Int × Int)) (hm : ∀ e, Ae m e = lay e) : Fp n x m = some (Ci p lay x) := by
 unfold Fp Ci
 have hl := HP p x.elem x.fin
 simp only [GY hn, Option.bind_some]
 generalize By p x.elem x.fin = L at hl
 have := KO 0 (l := L) (KT lay x.elem) (fun w => by unfold KT; split <;> simp) (by omega) (step := Dz x m L) (fin := fun o => o) (fun o => by simp only [Dz, Bx, cond_false]) (fun i w o ha hb => by
  have := BW ha
  simp only [Dz, BR ha, cond_true, Ac, ha, Option.bind_some, hm, AZ (show i < 1000000000 by omega)]
  unfold KT
  have ap := Bc (show o.length + [w.out].length <= 4294967296 by simp; omega)
  by_cases c : w.pos = 0
  .simp [c, ap]
  have cb : (w.pos == 0) = false := beq_eq_false_iff_ne.2 c
  cases hy : lay x.elem with
  | none => simp [c, cb, ap]
  | some q =>
   by_cases d : w.pos = q
   .subst d; simp [c, cb, ap]
   have db : (w.pos == q) = false := beq_eq_false_iff_ne.2 d
   have de : ¬ q = w.pos := fun h => d h.symm
   simp [c, cb, db, de]) [] (by simp)
 simpa using this
theorem Tt (hn : BT p n) (s : List AG × List (AG × Bool)) (x : AG) (l : List Int) (hl : l.length <= 10) (q : List AG) (hq : q.length <= 1000) : AO (Cg n s x l) (0, q) = some (.inl (q ++ I4 p x.elem l, A5 x true s.2)) := by
 unfold I4
 exact KO 1000 (l := l) (fun o => match Ar p ⟨x.elem, o⟩ with | some y => [y] | none => []) (fun o => by split <;> simp) (by omega) (step := Cg n s x l) (fin := fun o => (Sum.inl (o, A5 x true s.2) : (List AG × List (AG × Bool)) ⊕ Bool)) (fun o => by simp only [Cg, Bx, cond_false]) (fun i a o ha hb => by
  have := BW ha
  simp only [Cg, BR ha, cond_true, Ac, ha, Option.bind_some, D4 hn, AZ (show i < 1000000000 by omega)]
  cases Ar p ⟨x.elem, a⟩ with
  | none => simp
  | some y => simp [Bc (show o.length + [y].length <= 4294967296 by simp; omega)]) q hq
theorem Qh (hn : BT p n) (h1 : r.steps.length <= 1000) (h2 : r.zone.length <= 1000) (h3 : r.holds.length <= 1000) (y3 : List (Int × Int) × Bool) (hm : ∀ e, Ae y3.1 e = lay e) (x : AG) (q : List AG) (hq : q.length <= 1000) (vis : List (AG × Bool)) :
  Bw n r y3 p (x :: q, vis) = some (if A9 vis x = true \/ x.elem ∈ r.steps.map (·.elem) \/ Ed p r.holds x then .inl (q, vis) else if HA p lay r.zone x then .inl (q ++ I4 p x.elem (Ci p lay x), A5 x true vis) else .inr false) := by
 have d : decide ((0 : Int) < (((x :: q).length : Nat) : Int)) = true := by simp
 have e0 : Al (x :: q) 0 = some x := rfl
 have vb : (Ae vis x).getD false = A9 vis x := rfl
 have es : (bif !p.hard then (BX n x).bind fun y2018 => bif decide (0 <= y2018) then (BX n x).bind fun y2021 => (BA r.holds y2021).bind fun y2023 => some y2023 else some false else some false : Option Bool) = some (decide (Ed p r.holds x)) := by
  unfold Ed
  simp only [HO hn, Option.bind_some, H0 r.holds (show r.holds.length < 1000000 by omega)]
  by_cases hh : p.hard = true
  .simp [hh]
  have hf : p.hard = false := by simpa using hh
  by_cases c : 0 <= A1 p x
  .simp [hf, c]
  simp [hf, c]
 have eb : (bif A9 vis x then some true else (ES r x.elem).bind fun y2013 => bif y2013 then some true else (bif !p.hard then (BX n x).bind fun y2018 => bif decide (0 <= y2018) then (BX n x).bind fun y2021 => (BA r.holds y2021).bind fun y2023 => some y2023 else some false else some false) : Option Bool) = some (decide (A9 vis x = true \/ x.elem ∈ r.steps.map (·.elem) \/ Ed p r.holds x)) := by
  rw [es]
  cases hs : A9 vis x with
  | true => simp
  | false =>
   simp only [cond_false, Rq r (show r.steps.length < 1000000 by omega), Option.bind_some]
   by_cases c : x.elem ∈ r.steps.map (·.elem)
   .rw [decide_eq_true c]; simp only [cond_true, c, true_or, or_true, decide_true]
   rw [decide_eq_false c]; simp only [cond_false, c, false_or, Bool.false_eq_true]
 unfold Bw
 simp only [d, cond_true, e0, Ve, Option.bind_some, vb]
 rw [eb]
 simp only [Option.bind_some]
 by_cases c : A9 vis x = true \/ x.elem ∈ r.steps.map (·.elem) \/ Ed p r.holds x
 .rw [if_pos c, decide_eq_true c]; rfl
 rw [if_neg c, decide_eq_false c]
 simp only [cond_false, DC hn, Option.bind_some, Vi hn x y3.1 hm, H0 r.zone (show r.zone.length < 1000000 by omega)]
 have hb := PH p lay x
 by_cases k4 : Ah p x.elem = 4
 .have : ¬ HA p lay r.zone x := fun h => h.1 k4
  rw [if_neg this, k4]; rfl
 have b4 : (Ah p x.elem == 4) = false := beq_eq_false_iff_ne.2 k4
 simp only [b4, cond_false]
 by_cases hg : HA p lay r.zone x
 .rw [if_pos hg]
  have : (bif decide ((0 : Int) < ((Ci p lay x).length : Int)) then some (!decide (x.elem ∈ r.zone)) else some false : Option Bool) = some false := by
   by_cases hl : Ci p lay x = []
   .simp [hl]
   have := hg.2 hl
   simp [this]
  rw [this]
  simp only [Option.bind_some, cond_false]
  exact Tt hn _ x _ (by omega) q hq
 rw [if_neg hg]
 have : (bif decide ((0 : Int) < ((Ci p lay x).length : Int)) then some (!decide (x.elem ∈ r.zone)) else some false : Option Bool) = some true := by
  have hl : Ci p lay x ≠ [] := fun h => hg ⟨k4, fun h2 => absurd h h2⟩
  have hz : x.elem ∉ r.zone := fun h => hg ⟨k4, fun _ => h⟩
  have := List.length_pos_iff.2 hl
  have hd : decide ((0 : Int) < ((Ci p lay x).length : Int)) = true := decide_eq_true (by omega)
  rw [hd, decide_eq_false hz]; rfl
 rw [this]; rfl
theorem SW (l : List AU) : ∀ y ∈ CV p (CN p l), ∃ x ∈ CN p l, Ar p x = some y := fun y hy => by
 obtain ⟨x, hx, rfl⟩ := List.mem_map.1 hy
 obtain ⟨y, h⟩ := Hz hx
 exact ⟨x, hx, by rw [h]; rfl⟩
theorem Uf {l : List AU} {x y : AG} (hx : x ∈ CN p l) (hy : Ar p x = some y) : y ∈ CV p (CN p l) := List.mem_map.2 ⟨x, hx, by rw [hy]; rfl⟩
theorem Pu (hv : B9 p) (hn : BT p n) (h1 : r.steps.length <= 12) (h2 : r.zone.length <= 1000) (h3 : r.holds.length <= 1000) (y3 : List (Int × Int) × Bool) (hm : ∀ e, Ae y3.1 e = lay e) :
  ∃ b, AO (Bw n r y3 p) (CV p (CN p r.steps), []) = some b /\ (b = true ↔ MF p lay r.holds r.zone r.steps) := by
 have hj := hv.nj
 have hp := Gk (p := p) r.steps
 have h4 : (Bq p).length = 2 * p.joins.length := FL _
 refine Dt (step := Bw n r y3 p) (Post := fun b => b = true ↔ MF p lay r.holds r.zone r.steps)
  (fun k s => GI p lay r.holds r.zone r.steps (fun y => A9 s.2 y = true \/ y.elem ∈ r.steps.map (·.elem) \/ Ed p r.holds y) s.1 /\ k + s.1.length + 3 * LN p s.2 <= 700) 700 ?_ ?_
 .rintro k ⟨q, vis⟩ ⟨hi, hms⟩
  dsimp only at hi hms
  cases q with
  | nil => exact .inl ⟨true, by simp [Bw], fun _ => hi.done, fun _ => rfl⟩
  | cons x q =>
   simp only [List.length_cons] at hms
   rw [Qh (lay := lay) hn (by omega) h2 h3 y3 hm x q (by omega) vis]
   by_cases c : A9 vis x = true \/ x.elem ∈ r.steps.map (·.elem) \/ Ed p r.holds x
   .rw [if_pos c]
    refine .inr ⟨by omega, _, rfl, hi.next (fun _ h => h) c (fun _ h => .inl h) (fun _ h => h) (fun y hy => hi.arr y (by simp [hy])) fun q => absurd c q, by dsimp only; omega⟩
   rw [if_neg c]
   have c1 : x.elem ∉ r.steps.map (·.elem) := fun h => c (.inr (.inl h))
   have c2 : ¬ Ed p r.holds x := fun h => c (.inr (.inr h))
   have c3 : A9 vis x = false := by cases hs : A9 vis x with | false => rfl | true => exact absurd (.inl hs) c
   by_cases hg : HA p lay r.zone x
   .rw [if_pos hg]
    have hx := (hi.arr x (by simp)).in_ports
    have hlt := Ue hx c3
    have hb := PH p lay x
    have hnl := Ts (p := p) x.elem (Ci p lay x)
    refine .inr ⟨by omega, _, rfl, hi.go c1 c2 hg fun y => ?_, by simp only [List.length_append]; omega⟩
    dsimp only
    rw [Ff]
    constructor
    .rintro ((h | h) | h)
     .exact .inr h
     .exact .inl (.inl h)
     exact .inl (.inr h)
    rintro ((h | h) | h)
    .exact .inl (.inr h)
    .exact .inr h
    exact .inl (.inl h)
   rw [if_neg hg]
   exact .inl ⟨false, rfl, fun h => (by cases h), fun h => absurd h (hi.bad c1 c2 hg)⟩
 refine ⟨⟨fun y hy => ?_, fun x hx h1 h2 => ?_, fun x y hx hy => .inl (Uf hx hy)⟩, ?_⟩
 .obtain ⟨x, hx, hy⟩ := SW r.steps y hy
  exact .init hx hy
 .rcases hx with h | h | h
  .simp [A9, Ae] at h
  .exact absurd h h1
  exact absurd h h2
 have h3 : LN p [] <= (Bq p).length := List.length_filter_le _ _
 simp only [CV, List.length_map]
 omega
end
end Go.E
/- Plain Lean: a road that is guarded keeps all out, whatever way other points lie; what a flank keeps is guarded. No condition. -/
namespace Go.E
open Go
theorem Ug {nl : List AX} {e : Int} : DD nl e = none ↔ ∀ m ∈ nl, m.elem ≠ e := by
 unfold DD
 rw [Option.map_eq_none_iff, List.find?_eq_none]
 simp only [beq_iff_eq]
theorem Rv {nl : List AX} {e q : Int} (h : DD nl e = some q) : (⟨e, q⟩ : AX) ∈ nl := by
 unfold DD at h
 obtain ⟨m, hm, rfl⟩ := Option.map_eq_some_iff.1 h
 have h1 := List.mem_of_find?_eq_some hm
 have h2 := List.find?_some hm
 simp only [beq_iff_eq] at h2
 subst h2
 exact h1
theorem NC {nl : List AX} (hc : HB nl) {m : AX} (hm : m ∈ nl) : DD nl m.elem = some m.pos := by
 cases h : DD nl m.elem with
 | none => exact absurd rfl (Ug.1 h m hm)
 | some q => rw [hc m hm _ (Rv h) rfl]
theorem Tu {nl : List AX} (h : nl.Pairwise (fun a b => a.elem ≠ b.elem)) : HB nl := by
 intro a ha b hb e
 induction nl with
 | nil => cases ha
 | cons c l ih =>
  rw [List.pairwise_cons] at h
  rcases List.mem_cons.1 ha with rfl | ha'
  .rcases List.mem_cons.1 hb with rfl | hb'
   .rfl
   exact absurd e (h.1 b hb')
  rcases List.mem_cons.1 hb with rfl | hb'
  .exact absurd e.symm (h.1 a ha')
  exact ih h.2 ha' hb'
section
variable {p : AK} {n : A4} {r : AW} {lay : Int -> Option Int} {holds zone : List Int} {st : List AU} {lie : List Int} {shut : List Bool}
theorem Tv {nd g : List AX} {z h : List Int} {vis : List (AG × Bool)} (hj : F9 p) (hk : KI p st nd false vis g z h []) (hc : HB (nd ++ g)) : MF p (DD (nd ++ g)) h z st := by
 have fin : ∀ y, S1 st vis [] y -> A9 vis y = true \/ y.elem ∈ st.map (·.elem) := fun y h => by
  rcases h with h | h
  .cases h
  exact h
 have main : ∀ x, Jz p (DD (nd ++ g)) h st x -> A9 vis x = true -> x.elem ∉ st.map (·.elem) -> ¬ Ed p h x -> HA p (DD (nd ++ g)) z x /\ ∀ o ∈ Ci p (DD (nd ++ g)) x, ∀ y, Ar p ⟨x.elem, o⟩ = some y -> A9 vis y = true \/ y.elem ∈ st.map (·.elem) := by
  intro x hx hsx h1 h2
  have hr := hk.seen rfl x hsx
  have kn : ¬ (0 <= A1 p x /\ p.hard = false) := fun q => h2 ⟨q.2, q.1, hr.held q⟩
  have hback : ∀ o ∈ Ci p (DD (nd ++ g)) x, x.elem ∈ z /\ ∀ y, Ar p ⟨x.elem, o⟩ = some y -> A9 vis y = true \/ y.elem ∈ st.map (·.elem) := by
   intro o ho
   obtain ⟨w, hw, hp, rfl⟩ := Tr.1 ho
   obtain ⟨f1, f2, f3, f4, f5, f6⟩ := QJ hw
   by_cases k2 : Ah p x.elem = 2
   .by_cases f0 : x.fin = 0
    .have ho : w.out = 1 \/ w.out = 2 := by
      rw [f0] at hw
      exact WX k2 (L6 hw (.inr rfl))
     have := hr.toe kn k2 f0
     exact ⟨this.1, fun y hy => fin _ (this.2 _ ho y hy)⟩
    obtain ⟨ho, hq⟩ := WW k2 f0 (L6 hw (.inr rfl) : CD p x.elem x.fin w.pos = some w.out)
    rcases hr.leg kn k2 f0 with hl | hl
    .exact ⟨hl.1, fun y hy => fin _ (hl.2 y (by rw [ho] at hy; exact hy))⟩
    exfalso
    have hs := NC hc (List.mem_append_right nd hl)
    simp only at hs
    rw [hs] at hp
    have hw3 : AQ (3 - x.fin) = 3 - x.fin := by rw [k2] at f4; simp [CY] at f4; rw [CZ] <;> omega
    rw [k2] at f4
    simp [CY] at f4
    rw [hw3, hq] at hp
    rcases hp with hp | hp | hp
    .omega
    .cases hp
    simp only [Option.some.injEq] at hp; omega
   have h0 : w.pos = 0 := by
    by_cases c : w.pos = 0
    .exact c
    exact absurd (f6 c).1 k2
   have := hr.other kn k2 w.out (L6 hw (.inl h0))
   exact ⟨this.1, fun y hy => fin _ (this.2 y hy)⟩
  refine ⟨⟨hr.gate kn, fun hne => ?_⟩, fun o ho y hy => (hback o ho).2 y hy⟩
  obtain ⟨o, ho⟩ := List.exists_mem_of_ne_nil _ hne
  exact (hback o ho).1
 have seen : ∀ x, Jz p (DD (nd ++ g)) h st x -> A9 vis x = true \/ x.elem ∈ st.map (·.elem) := by
  intro x hx
  induction hx with
  | init h1 h2 => exact fin _ (hk.init _ _ h1 h2)
  | step hx h1 h2 h3 h4 ih =>
   exact (main _ hx (ih.resolve_right h1) h1 h2).2 _ h3 _ h4
 exact fun x hx h1 h2 => (main x hx ((seen x hx).resolve_right h1) h1 h2).1
end
end Go.E
/- Plain Lean: whether a road is guarded: the program's answer and the document's are one. No condition. -/
namespace Go.E
open Go
def ND (p : AK) (m : AX) : Prop := Ah p m.elem = 2 /\ (m.pos = 1 \/ m.pos = 2)
instance (p : AK) (m : AX) : Decidable (ND p m) := by unfold ND; infer_instance
theorem QT (l : List AX) (a : AX) (e : Int) : DD (l ++ [a]) e = match DD l e with | some q => some q | none => if a.elem = e then some a.pos else none := by
 unfold DD
 rw [List.find?_append]
 cases h : List.find? (fun m => m.elem == e) l with
 | some q => rfl
 | none =>
  by_cases c : a.elem = e
  .simp [c]
  simp [c]
theorem PJ {l : List AX} {a : AX} (h : HB l) (ha : ∀ q, DD l a.elem = some q -> q = a.pos) : HB (l ++ [a]) := by
 intro x hx y hy e
 rcases List.mem_append.1 hx with hx1 | hx1
 .rcases List.mem_append.1 hy with hy1 | hy1
  .exact h x hx1 y hy1 e
  rw [List.mem_singleton.1 hy1] at e ⊢
  exact ha _ (by rw [<- e]; exact NC h hx1)
 rw [List.mem_singleton.1 hx1] at e ⊢
 rcases List.mem_append.1 hy with hy1 | hy1
 .exact (ha _ (by rw [e]; exact NC h hy1)).symm
 rw [List.mem_singleton.1 hy1]
section
variable {p : AK} {n : A4} {r : AW}
theorem Tw (hn : BT p n) (r : AW) (h1 : r.needs.length <= 1000) (h2 : r.guards.length <= 1000) :
  ∃ t : List (Int × Int) × Bool, Fo n r = some t /\ ((t.2 = true /\ HB (r.needs ++ r.guards) /\ (∀ m ∈ r.guards, ND p m) /\ ∀ e, Ae t.1 e = DD (r.needs ++ r.guards) e) \/ (t.2 = false /\ ¬ (HB (r.needs ++ r.guards) /\ ∀ m ∈ r.guards, ND p m))) := by
 unfold Fo
 have e1 : Bm r.needs = some r.needs := Fd _ (by omega)
 simp only [e1, Option.bind_some, Bc (show r.needs.length + r.guards.length <= 4294967296 by omega)]
 have hg : ∀ i m, r.needs.length <= i -> (r.needs ++ r.guards)[i]? = some m -> m ∈ r.guards := fun i m hi hm => by
  rw [List.getElem?_append_right hi] at hm
  exact List.mem_of_getElem? hm
 have hg2 : ∀ m ∈ r.guards, ∃ i, r.needs.length <= i /\ (r.needs ++ r.guards)[i]? = some m := fun m hm => by
  obtain ⟨i, hi⟩ := List.mem_iff_getElem?.1 hm
  exact ⟨r.needs.length + i, by omega, by rw [List.getElem?_append_right (by omega), Nat.add_sub_cancel_left]; exact hi⟩
 have hlen : (r.needs ++ r.guards).length <= 2000 := by simp; omega
 generalize r.needs ++ r.guards = L at hg hg2 hlen
 refine B7 (l := L) (step := C7 n r L) (Post := fun t => (t.2 = true /\ HB L /\ (∀ m ∈ r.guards, ND p m) /\ ∀ e, Ae t.1 e = DD L e) \/ (t.2 = false /\ ¬ (HB L /\ ∀ m ∈ r.guards, ND p m)))
  (fun i c => HB (L.take i) /\ (∀ k m, r.needs.length <= k -> k < i -> L[k]? = some m -> ND p m) /\ ∀ e, Ae c e = DD (L.take i) e) ?_ ?_ ⟨fun a ha => (by simp at ha), fun k m _ hk => (by omega), fun e => rfl⟩
 .rintro c ⟨i1, i2, i3⟩
  rw [List.take_length] at i1
  refine ⟨(c, true), by simp only [C7, Bx, cond_false], .inl ⟨rfl, i1, fun m hm => ?_, fun e => by rw [i3 e, List.take_length]⟩⟩
  obtain ⟨i, hi, hm⟩ := hg2 m hm
  exact i2 i m hi (BW hm) hm
 rintro i a c ha ⟨i1, i2, i3⟩
 have hi := BW ha
 have w := AZ (show i < 1000000000 by omega)
 have ht : (bif decide ((r.needs.length : Int) <= (i : Int)) then (Bb n a.elem).bind fun y => bif (y != 2) then some true else bif (a.pos != 1) then some (a.pos != 2) else some false else some false : Option Bool) = some (decide (r.needs.length <= i /\ ¬ ND p a)) := by
  unfold ND
  rw [DC hn]
  by_cases c1 : r.needs.length <= i
  .have d1 : decide ((r.needs.length : Int) <= (i : Int)) = true := decide_eq_true (by omega)
   rw [d1]
   simp only [cond_true, Option.bind_some]
   by_cases c2 : Ah p a.elem = 2
   .have b2 : (Ah p a.elem != 2) = false := by simp [c2]
    rw [b2]
    by_cases c3 : a.pos = 1
    .simp [c1, c2, c3]
    have b3 : (a.pos != 1) = true := bne_iff_ne.2 c3
    rw [b3]
    by_cases c4 : a.pos = 2
    .simp [c1, c2, c3, c4]
    have b4 : (a.pos != 2) = true := bne_iff_ne.2 c4
    rw [b4]
    simp [c1, c2, c3, c4]
   have b2 : (Ah p a.elem != 2) = true := bne_iff_ne.2 c2
   rw [b2]
   simp [c1, c2]
  have d1 : decide ((r.needs.length : Int) <= (i : Int)) = false := decide_eq_false (by omega)
  rw [d1]; simp [c1]
 have hs : (bif (Ae c a.elem).isSome then some (((Ae c a.elem).getD 0) != a.pos) else some false : Option Bool) = some (match DD (L.take i) a.elem with | some q => q != a.pos | none => false) := by
  rw [i3]
  cases DD (L.take i) a.elem <;> simp
 have hu : C7 n r L ((i : Int), c) = bif decide (r.needs.length <= i /\ ¬ ND p a) then some (.inr ([], false)) else bif (match DD (L.take i) a.elem with | some q => q != a.pos | none => false) then some (.inr ([], false)) else some (.inl (((i + 1 : Nat) : Int), A5 a.elem a.pos c)) := by
  simp only [C7, BR ha, cond_true, Ac, ha, Option.bind_some, w]
  rw [ht]
  simp only [Option.bind_some]
  rw [hs]
  simp only [Option.bind_some]
 rw [hu]
 have htake : L.take (i + 1) = L.take i ++ [a] := by
  rw [List.take_add_one, ha]; rfl
 by_cases c1 : r.needs.length <= i /\ ¬ ND p a
 .rw [decide_eq_true c1]
  exact .inl ⟨_, rfl, .inr ⟨rfl, fun h => c1.2 (h.2 a (hg i a c1.1 ha))⟩⟩
 rw [decide_eq_false c1]
 cases hy : DD (L.take i) a.elem with
 | none =>
  refine .inr ⟨_, rfl, ?_, fun k m hk hk2 hm => ?_, fun e => ?_⟩
  .rw [htake]; exact PJ i1 fun q hq => by rw [hy] at hq; cases hq
  .by_cases e : k = i
   .subst e; rw [ha] at hm; cases hm; exact Decidable.byContradiction fun h => c1 ⟨hk, h⟩
   exact i2 k m hk (by omega) hm
  rw [Dq, htake, QT, i3]
  by_cases he : e = a.elem
  .subst he; simp [hy]
  rw [if_neg he]
  have : ¬ a.elem = e := fun h => he h.symm
  rw [if_neg this]
  cases DD (L.take i) e <;> rfl
 | some q =>
  by_cases hq : q = a.pos
  .subst hq
   have : (a.pos != a.pos) = false := by simp
   simp only [this, cond_false]
   refine .inr ⟨_, rfl, ?_, fun k m hk hk2 hm => ?_, fun e => ?_⟩
   .rw [htake]; exact PJ i1 fun q hq => by rw [hy] at hq; cases hq; first | rfl | done
   .by_cases e : k = i
    .subst e; rw [ha] at hm; cases hm; exact Decidable.byContradiction fun h => c1 ⟨hk, h⟩
    exact i2 k m hk (by omega) hm
   rw [Dq, htake, QT, i3]
   by_cases he : e = a.elem
   .subst he; simp [hy]
   rw [if_neg he]
   have : ¬ a.elem = e := fun h => he h.symm
   rw [if_neg this]
   cases DD (L.take i) e <;> rfl
  have : (q != a.pos) = true := by simp [hq]
  simp only [this, cond_false, cond_true]
  refine .inl ⟨_, rfl, .inr ⟨rfl, fun h => hq ?_⟩⟩
  have h1 := Rv hy
  have h2 : (⟨a.elem, q⟩ : AX) ∈ L := List.mem_of_mem_take h1
  exact h.1 _ h2 a (List.mem_of_getElem? ha) rfl
theorem Tx {β : Type} {L : List AG} (hL : L.length <= 1000) {step : Int × List AG -> Option ((Int × List AG) ⊕ β)} {fin : List AG -> Option β} (h0 : ∀ q, step ((L.length : Int), q) = (fin q).map .inr)
  (h1 : ∀ (i : Nat) x q, L[i]? = some x -> q.length <= 2000 -> step ((i : Int), q) = some (.inl (((i + 1 : Nat) : Int), q ++ [(Ar p x).getD ⟨0, 0⟩]))) : AO step ((0 : Int), []) = fin (CV p L) := by
 have key : ∀ (rest : List AG) (i : Nat) (q : List AG), L.drop i = rest -> i <= L.length -> q.length = i -> AO step ((i : Int), q) = fin (q ++ CV p rest) := by
  intro rest
  induction rest with
  | nil =>
   intro i q hd hi hq
   have : i = L.length := by have := congrArg List.length hd; simp at this; omega
   subst this
   rw [FY, h0]
   simp only [CV, List.map_nil, List.append_nil]
   cases fin q <;> rfl
  | cons a r ih =>
   intro i q hd hi hq
   have hlt : i < L.length := by have := congrArg List.length hd; simp at this; omega
   have ha : L[i]? = some a := by
    have : (L.drop i)[0]? = some a := by rw [hd]; rfl
    simpa using this
   have hr : L.drop (i + 1) = r := by
    have : (L.drop i).drop 1 = r := by rw [hd]; rfl
    rwa [List.drop_drop] at this
   rw [C0 (h1 i a q ha (by omega)), ih (i + 1) _ hr (by omega) (by simp [hq])]
   simp [CV]
 simpa using key L 0 [] rfl (Nat.zero_le _) rfl
theorem Tz (hn : BT p n) (y3 : List (Int × Int) × Bool) (h1 : r.steps.length <= 12) : AO (DM n r y3 p (CN p r.steps)) (0, []) = AO (Bw n r y3 p) (CV p (CN p r.steps), []) := by
 have hp := Gk (p := p) r.steps
 exact Tx (L := CN p r.steps) (by omega) (fin := fun q => AO (Bw n r y3 p) (q, [])) (fun q => by simp only [DM, Bx, cond_false]) (fun i x q hx hq => by
  have := BW hx
  simp only [DM, BR hx, cond_true, Ac, hx, Option.bind_some, D4 hn, Bc (show q.length + [(Ar p x).getD (⟨0, 0⟩ : AG)].length <= 4294967296 by simp; omega), AZ (show i < 1000000000 by omega)])
theorem T0 (hv : B9 p) (hn : BT p n) (h1 : r.steps.length <= 12) (h2 : r.needs.length <= 1000) (h3 : r.guards.length <= 1000) (h4 : r.zone.length <= 1000) (h5 : r.holds.length <= 1000) : ∃ b, ET n r = some b /\ (b = true ↔ NB p r) := by
 obtain ⟨t, e1, e2⟩ := Tw hn r h2 h3
 unfold ET
 rw [e1]
 simp only [Option.bind_some]
 rcases e2 with ⟨e2, e3, e4, e5⟩ | ⟨e2, e3⟩
 .rw [e2]
  simp only [Bool.not_true, cond_false]
  have e6 : B4 n = some p := by unfold B4; rw [hn.plan, NY p hv.few]; rfl
  have e7 : EI n = some (p.elems.length : Int) := WU hn
  have e8 : Bf n = some (p.signals.length : Int) := by unfold Bf; rw [hn.plan]
  obtain ⟨b, e9, e10⟩ := Pu (lay := DD (r.needs ++ r.guards)) hv hn h1 h4 h5 t e5
  have l2 : AO (DN n r t) 0 = if r.holds.any (fun s => !decide (0 <= s /\ s < (p.signals.length : Int))) = true then some false else some b := by
   refine OB (l := r.holds) _ false (some b) ?_ fun i s hs => ?_
   .simp only [DN, Bx, cond_false, e6, Option.bind_some, Rr hn r (show r.steps.length <= 1000 by omega)]
    rw [Tz hn t h1, e9]
   have := BW hs
   simp only [DN, BR hs, cond_true, Ac, hs, Option.bind_some, e8, AZ (show i < 1000000000 by omega)]
   by_cases c1 : s < 0
   .have c2 : ¬ (0 <= s /\ s < (p.signals.length : Int)) := by omega
    simp [c1, c2]
   by_cases c2 : (p.signals.length : Int) <= s
   .have c3 : ¬ (0 <= s /\ s < (p.signals.length : Int)) := by omega
    simp [c1, c2, c3]
   have c3 : (0 <= s /\ s < (p.signals.length : Int)) := by omega
   simp [c1, c2, c3]
  have l1 : AO (DO n r t) 0 = if r.zone.any (fun e => !decide (0 <= e /\ e < (p.elems.length : Int) /\ e ∉ r.steps.map (·.elem))) = true then some false else if r.holds.any (fun s => !decide (0 <= s /\ s < (p.signals.length : Int))) = true then some false else some b := by
   refine OB (l := r.zone) _ false _ ?_ fun i e he => ?_
   .simp only [DO, Bx, cond_false]
    rw [l2]
   have := BW he
   simp only [DO, BR he, cond_true, Ac, he, Option.bind_some, e7, Rq r (show r.steps.length < 1000000 by omega), AZ (show i < 1000000000 by omega)]
   by_cases c1 : e < 0
   .have c3 : ¬ (0 <= e /\ e < (p.elems.length : Int) /\ e ∉ r.steps.map (·.elem)) := by omega
    rw [decide_eq_true c1, decide_eq_false c3]; rfl
   rw [decide_eq_false c1]
   by_cases c2 : (p.elems.length : Int) <= e
   .have c3 : ¬ (0 <= e /\ e < (p.elems.length : Int) /\ e ∉ r.steps.map (·.elem)) := by omega
    rw [decide_eq_true c2, decide_eq_false c3]; rfl
   rw [decide_eq_false c2]
   by_cases c4 : e ∈ r.steps.map (·.elem)
   .have c3 : ¬ (0 <= e /\ e < (p.elems.length : Int) /\ e ∉ r.steps.map (·.elem)) := fun h => h.2.2 c4
    rw [decide_eq_true c4, decide_eq_false c3]; rfl
   have c3 : (0 <= e /\ e < (p.elems.length : Int) /\ e ∉ r.steps.map (·.elem)) := ⟨by omega, by omega, c4⟩
   rw [decide_eq_false c4, decide_eq_true c3]; rfl
  rw [l1]
  by_cases c1 : r.zone.any (fun e => !decide (0 <= e /\ e < (p.elems.length : Int) /\ e ∉ r.steps.map (·.elem))) = true
  .rw [if_pos c1]
   refine ⟨false, rfl, fun h => (by cases h), fun h => ?_⟩
   obtain ⟨e, he, hb⟩ := List.any_eq_true.1 c1
   have := h.zone e he
   simp only [Bool.not_eq_true', decide_eq_false_iff_not] at hb
   exact absurd this hb
  rw [if_neg c1]
  by_cases c2 : r.holds.any (fun s => !decide (0 <= s /\ s < (p.signals.length : Int))) = true
  .rw [if_pos c2]
   refine ⟨false, rfl, fun h => (by cases h), fun h => ?_⟩
   obtain ⟨e, he, hb⟩ := List.any_eq_true.1 c2
   have := h.hold e he
   simp only [Bool.not_eq_true', decide_eq_false_iff_not] at hb
   exact absurd this hb
  rw [if_neg c2]
  refine ⟨b, rfl, fun h => ⟨e3, e4, fun e he => ?_, fun s hs => ?_, e10.1 h⟩, fun h => e10.2 h.kept⟩
  .refine Decidable.byContradiction fun hb => c1 (List.any_eq_true.2 ⟨e, he, ?_⟩)
   simp only [Bool.not_eq_true', decide_eq_false_iff_not]; exact hb
  refine Decidable.byContradiction fun hb => c2 (List.any_eq_true.2 ⟨s, hs, ?_⟩)
  simp only [Bool.not_eq_true', decide_eq_false_iff_not]; exact hb
 rw [e2]
 exact ⟨false, rfl, fun h => (by cases h), fun h => absurd ⟨h.cons, h.guard⟩ e3⟩
end
end Go.E
/- Plain Lean: whether a road is guarded, by the program and by the document (law ProofGuards); what is guarded keeps (law ProofKeeps). No condition. -/
namespace Go.E
open Go
section
variable {p : AK} {n : A4} {r : AW}
theorem Uh {r : AW} (h : I1 p r = true) : (∀ m ∈ r.needs, m.elem ∈ r.steps.map (·.elem) /\ Ah p m.elem = 2 /\ (m.pos = 1 \/ m.pos = 2)) /\ r.needs.Pairwise (fun a b => a.elem ≠ b.elem) /\ r.steps.length <= 12 := by
 obtain ⟨sg, nd, l, h1, h2, h3, h4, h5, h6, h7⟩ := HS h
 have := Jw (by simp) (by simp) h4
 rw [h7]
 exact ⟨fun m hm => by simpa using this.1 m hm, this.2.1, h3⟩
end
end Go.E
/- Plain Lean: what is wrong first with a chart of a valid plan: the program's answer and the document's are one (NE). No condition. -/
namespace Go.E
open Go
def CG {α : Type} (bad : Nat -> α -> Bool) : Nat -> List α -> Option Nat
 | _, [] => none
 | i, a :: r => if bad i a = true then some i else CG bad (i + 1) r
def LO {β : Type} (o : Option Nat) (x : Nat -> β) (fin : Option β) : Option β := match o with
 | some i => some (x i)
 | none => fin
theorem H3 {α β : Type} {l : List α} {step : Int -> Option (Int ⊕ β)} (bad : Nat -> α -> Bool) (x : Nat -> β) (fin : Option β) (h0 : step (l.length : Int) = fin.map .inr)
  (h1 : ∀ (i : Nat) a, l[i]? = some a -> step (i : Int) = if bad i a = true then some (.inr (x i)) else some (.inl ((i + 1 : Nat) : Int))) : AO step 0 = LO (CG bad 0 l) x fin := by
 refine Iz (γ := Unit) l (fun i _ => (i : Int)) (fun i _ r => LO (CG bad i r) x fin) (fun _ => ?_) (fun i c a r ha hi => ?_) ()
 .simpa [CG, LO] using h0
 rw [h1 i a ha]
 by_cases c : bad i a = true
 .left; rw [if_pos c]; unfold CG; rw [if_pos c]; rfl
 right; rw [if_neg c]; exact ⟨(), rfl, by show LO (CG bad i (a :: r)) x fin = _; rw [CG, if_neg c]⟩
theorem Ek {α : Type} {bad : Nat -> α -> Bool} : ∀ (l : List α) (i : Nat), CG bad i l = none ↔ ∀ (k : Nat) a, l[k]? = some a -> bad (i + k) a = false
 | [], _ => by simp [CG]
 | a :: r, i => by
  unfold CG
  by_cases c : bad i a = true
  .rw [if_pos c]
   constructor
   .intro h; cases h
   intro h
   have := h 0 a rfl
   rw [Nat.add_zero, c] at this
   cases this
  rw [if_neg c, Ek r (i + 1)]
  constructor
  .intro h k b hb
   cases k with
   | zero => simp at hb; subst hb; simpa using c
   | succ k =>
    have := h k b (by simpa using hb)
    rw [show i + (k + 1) = i + 1 + k by omega]; exact this
  intro h k b hb
  have := h (k + 1) b (by simpa using hb)
  rw [show i + 1 + k = i + (k + 1) by omega]; exact this
def Gp (l : List AW) (st : List AU) : Bool := l.any fun x => decide (x.steps = st)
theorem MG {l : List AW} {st : List AU} : Gp l st = true ↔ ∃ x ∈ l, x.steps = st := by
 unfold Gp; simp only [List.any_eq_true, decide_eq_true_eq]
def Na (p : AK) (l : List AW) (s : Nat) : Bool := (FF p (s : Int)).any fun r => !Gp l r.steps
noncomputable def J0 (p : AK) (r : AW) : Bool := @decide (NB p r) (Classical.propDecidable _)
theorem PK {p : AK} {r : AW} : J0 p r = true ↔ NB p r := by unfold J0; exact @decide_eq_true_iff _ (Classical.propDecidable _)
noncomputable def Rw (n : A4) (r : AW) : Bool := ((CE n r).map (·.bare)).getD false
noncomputable def NE (p : AK) (n : A4) (l : List AW) : Option (Int × Int) :=
 if 64 < l.length then some (2, -1) else
 LO (CG (fun _ r => !I1 p r) 0 l) (fun i => (3, (i : Int))) <|
 LO (CG (fun i r => Gp (l.take i) r.steps) 0 l) (fun i => (4, (i : Int))) <|
 LO (CG (fun s (_ : Be) => Na p l s) 0 p.signals) (fun s => (5, (s : Int))) <|
 LO (CG (fun _ r => !r.bare && !J0 p r) 0 l) (fun i => (6, (i : Int))) <|
 LO (CG (fun _ r => r.bare != Rw n r) 0 l) (fun i => (7, (i : Int))) <| some (0, -1)
structure Ui (r : AW) : Prop where
 needs : r.needs.length <= 1000
 guards : r.guards.length <= 1000
 zone : r.zone.length <= 1000
 holds : r.holds.length <= 1000
section
variable {p : AK} {n : A4}
theorem Uj (hv : B9 p) {a b : AW} (ha : I1 p a = true) (hb : I1 p b = true) (h : a.steps = b.steps) : a.frm = b.frm := by
 obtain ⟨s1, n1, l1, a1, a2, a3, a4, a5, a6, a7⟩ := HS ha
 obtain ⟨s2, n2, l2, b1, b2, b3, b4, b5, b6, b7⟩ := HS hb
 have key : ∀ (sg : Be) (st : List AU) (nd : List AX), 1 <= st.length -> Br p sg.at_.elem (Ar p sg.at_) [] [] st = some nd -> ∃ q, st.head? = some q /\ Ar p sg.at_ = some ⟨q.elem, q.in_⟩ := fun sg st nd hl hs => by
  cases st with
  | nil => simp at hl
  | cons q r =>
   cases hx : Ar p sg.at_ with
   | none => rw [hx] at hs; simp [Br] at hs
   | some x =>
    rw [hx] at hs
    unfold Br at hs
    split at hs
    .cases hs
    rename_i c
    have e1 : q.elem = x.elem := Decidable.byContradiction fun h => c (.inl h)
    have e2 : q.in_ = x.fin := Decidable.byContradiction fun h => c (.inr (.inl h))
    exact ⟨q, rfl, by rw [e1, e2]⟩
 obtain ⟨q1, c1, c2⟩ := key s1 a.steps n1 a2 a4
 obtain ⟨q2, d1, d2⟩ := key s2 b.steps n2 b2 b4
 rw [h] at c1
 rw [c1] at d1
 cases d1
 have e1 := QQ hv.join c2
 have e2 := QQ hv.join d2
 rw [e1] at e2
 have e3 : s1.at_ = s2.at_ := by injection e2
 obtain ⟨f1, f2⟩ := Uk a1
 obtain ⟨g1, g2⟩ := Uk b1
 have r1 := hv.sig.reads _ _ f1
 have r2 := hv.sig.reads _ _ g1
 rw [e3, r2] at r1
 rw [f2, g2]; omega
theorem QU (r : AW) (hr : r.steps.length <= 1000) (l : List AW) (hl : l.length < 1000000) (hb : ∀ x ∈ l, x.steps.length <= 1000) {step : Int -> Option (Int ⊕ Int)} (h0 : step (l.length : Int) = some (.inr (-1)))
  (h1 : ∀ (i : Nat) x, l[i]? = some x -> step (i : Int) = bif decide (x.steps = r.steps) then some (.inr (i : Int)) else some (.inl ((i + 1 : Nat) : Int))) : ∃ t, AO step 0 = some t /\ decide (0 <= t) = Gp l r.steps := by
 obtain ⟨t, e1, e2⟩ := Gj (l := l) (f := fun x => decide (x.steps = r.steps)) hl h0 (fun i a ha => by
  rw [h1 i a ha]
  cases decide (a.steps = r.steps) <;> rfl)
 refine ⟨t, e1, ?_⟩
 rcases e2 with ⟨rfl, e2⟩ | ⟨a, e0, e2, e3⟩
 .have : Gp l r.steps = false := by
   rw [<- Bool.not_eq_true, MG]
   rintro ⟨x, hx, he⟩
   have := List.find?_eq_none.1 e2 x hx
   simp [he] at this
  rw [this]; rfl
 have : Gp l r.steps = true := MG.2 ⟨a, List.mem_of_find?_eq_some e2, by simpa using List.find?_some e2⟩
 rw [this]
 exact decide_eq_true e0
theorem Vj (l : List AW) (r : AW) (hr : r.steps.length <= 1000) (hl : l.length <= 1000) (hb : ∀ x ∈ l, x.steps.length <= 1000) : ∃ t, AO (Dx l r) 0 = some t /\ decide (0 <= t) = Gp l r.steps :=
 QU r hr l (by omega) hb (by simp only [Dx, Bx, cond_false]) (fun i x hx => by
  have := BW hx
  have hxl := hb x (List.mem_of_getElem? hx)
  simp only [Dx, BR hx, cond_true, Ac, hx, Option.bind_some, F6, EG, Sz x.steps r.steps (show x.steps.length < 1000000 by omega), AZ (show i < 1000000000 by omega)])
theorem Vk (hn : BT p n) (hs : p.signals.length <= 1000) (l : List AW) (hl : l.length <= 1000) (hb : ∀ x ∈ l, x.steps.length <= 1000) : EH n l = LO (CG (fun s (_ : Be) => Na p l s) 0 p.signals) (fun s => (s : Int)) (some (-1)) := by
 unfold EH
 have e8 : Bf n = some (p.signals.length : Int) := by unfold Bf; rw [hn.plan]
 simp only [e8, Option.bind_some]
 refine H3 (l := p.signals) _ _ _ (by simp only [Fa, Bx, cond_false]; rfl) fun s sg hsg => ?_
 have hi := BW hsg
 have hol : (FF p (s : Int)).length <= 8192 := by have := Pq (p := p) (s : Int); exact this
 simp only [Fa, BR hsg, cond_true, PD hn, Option.bind_some]
 have := OB (l := FF p (s : Int)) (step := Dy l (s : Int) (FF p (s : Int))) (fun r => !Gp l r.steps) (.inr (s : Int)) (some (.inl ((s + 1 : Nat) : Int))) (by simp only [Dy, Bx, cond_false, AZ (show s < 1000000000 by omega)]; rfl) (fun i r hr => by
  have := BW hr
  obtain ⟨t, t1, t2⟩ := Vj l r (by have := Eb (List.mem_of_getElem? hr); omega) hl hb
  simp only [Dy, BR hr, cond_true, Ac, hr, Option.bind_some, t1, t2, AZ (show i < 1000000000 by omega)]
  cases Gp l r.steps <;> rfl)
 rw [this]
 unfold Na
 cases (FF p (s : Int)).any fun r => !Gp l r.steps <;> rfl
theorem Pv (hv : B9 p) (hn : FJ p = some (some n, 0)) (hN : BT p n) (l : List AW) (hl : l.length <= 1000) (hb : ∀ r ∈ l, Ui r) : DX ⟨p, l⟩ = NE p n l := by
 unfold DX NE
 simp only [hn, Option.bind_some, Pd, bne_self_eq_false, cond_false]
 by_cases c : 64 < l.length
 .rw [if_pos c, decide_eq_true (show (64 : Int) < (l.length : Int) by omega)]; rfl
 rw [if_neg c, decide_eq_false (show ¬ (64 : Int) < (l.length : Int) by omega)]
 simp only [cond_false]
 have l4 := H3 (l := l) (step := D1 ⟨p, l⟩ n) (fun _ r => !I1 p r) (fun i => ((3 : Int), (i : Int))) (AO (Ce ⟨p, l⟩ n) 0) (by simp only [D1, Bx, cond_false]) (fun i r hr => by
  have := BW hr
  have hL := hb r (List.mem_of_getElem? hr)
  simp only [D1, BR hr, cond_true, Ac, hr, Option.bind_some, Tj hN r hL.needs, AZ (show i < 1000000000 by omega)]
  cases I1 p r <;> rfl)
 rw [l4]
 cases hF : CG (fun _ r => !I1 p r) 0 l with
 | some i => rfl
 | none =>
  have hI : ∀ r ∈ l, I1 p r = true := fun r hr => by
   obtain ⟨i, hi⟩ := List.mem_iff_getElem?.1 hr
   simpa using (Ek l 0).1 hF i r hi
  have h12 : ∀ r ∈ l, r.steps.length <= 12 := fun r hr => (Uh (hI r hr)).2.2
  show AO (Ce ⟨p, l⟩ n) 0 = _
  have l5 := H3 (l := l) (step := Ce ⟨p, l⟩ n) (fun i r => Gp (l.take i) r.steps) (fun i => ((4 : Int), (i : Int))) ((EH n l).bind fun y => bif decide (0 <= y) then some (5, y) else AO (C9 ⟨p, l⟩ n) 0) (by simp only [Ce, Bx, cond_false]) (fun i r hr => by
   have hi := BW hr
   have hL := h12 r (List.mem_of_getElem? hr)
   obtain ⟨t, t1, t2⟩ := QU r (by omega) (l.take i) (by simp; omega) (fun x hx => by have := h12 x (List.mem_of_mem_take hx); omega) (step := D0 r (l.take i)) (by simp only [D0, Bx, cond_false]) (fun k x hx => by
    have hk := BW hx
    have hxl := h12 x (List.mem_of_mem_take (List.mem_of_getElem? hx))
    simp only [List.length_take] at hk
    simp only [D0, BR hx, cond_true, Ac, hx, Option.bind_some, ER, EG, Sz x.steps r.steps (show x.steps.length < 1000000 by omega), AZ (show k < 1000000000 by omega)])
   simp only [Ce, BR hr, cond_true, Ac, hr, Option.bind_some, HG l i (by omega), t1, t2, AZ (show i < 1000000000 by omega)]
   cases Gp (l.take i) r.steps <;> rfl)
  rw [l5]
  refine congrArg (LO (CG (fun i r => Gp (l.take i) r.steps) 0 l) (fun i => ((4 : Int), (i : Int)))) ?_
  rw [Vk hN (by have := hv.ns; omega) l hl (fun x hx => by have := h12 x hx; omega)]
  cases hS : CG (fun s (_ : Be) => Na p l s) 0 p.signals with
  | some s =>
   simp only [LO, Option.bind_some, decide_eq_true (show (0 : Int) <= (s : Int) by omega), cond_true]
  | none =>
   simp only [LO, Option.bind_some, show decide ((0 : Int) <= -1) = false from rfl, cond_false]
   have l7 := H3 (l := l) (step := C9 ⟨p, l⟩ n) (fun _ r => !r.bare && !J0 p r) (fun i => ((6 : Int), (i : Int))) (AO (C8 ⟨p, l⟩ n) 0) (by simp only [C9, Bx, cond_false]) (fun i r hr => by
    have hi := BW hr
    have hm := List.mem_of_getElem? hr
    have hL := hb r hm
    obtain ⟨b, b1, b2⟩ := T0 (r := r) hv hN (h12 r hm) hL.needs hL.guards hL.zone hL.holds
    have hbb : b = J0 p r := Bool.eq_iff_iff.2 (b2.trans PK.symm)
    simp only [C9, BR hr, cond_true, Ac, hr, Option.bind_some, b1, hbb, AZ (show i < 1000000000 by omega)]
    cases r.bare <;> cases J0 p r <;> rfl)
   have l8 := H3 (l := l) (step := C8 ⟨p, l⟩ n) (fun _ r => r.bare != Rw n r) (fun i => ((7 : Int), (i : Int))) (some (0, -1)) (by simp only [C8, Bx, cond_false]; rfl) (fun i r hr => by
    have hi := BW hr
    have hm := List.mem_of_getElem? hr
    have hL := hb r hm
    obtain ⟨g, z, h, bb, R2, _⟩ := SU (r := r) hv hN (h12 r hm) hL.needs
    have hfl : Rw n r = bb := by unfold Rw; rw [R2]; rfl
    simp only [C8, BR hr, cond_true, Ac, hr, Option.bind_some, R2, hfl, AZ (show i < 1000000000 by omega)]
    cases r.bare <;> cases bb <;> rfl)
   rw [l7, l8]
   rfl
end
end Go.E
/- Plain Lean: the chart of a valid plan with one thing of one road turned (law ProofTurned). No condition. -/
namespace Go.E
open Go
section
variable {p : AK} {n : A4}
noncomputable def Dm (n : A4) (r : AW) : AW := (CE n r).getD r
structure S2 (p : AK) (r q : AW) : Prop where
 frm : q.frm = r.frm
 to : q.to = r.to
 fin : q.fin = r.fin
 steps : q.steps = r.steps
 needs : q.needs = r.needs
 zone : QR p r.steps q.zone
 guards : Rs p r.steps q.guards
 hard : p.hard = true -> q.holds = []
 lg : q.guards.length <= 700
 lh : q.holds.length <= 700
 keep : ∃ vis, KI p r.steps r.needs q.bare vis q.guards q.zone q.holds []
theorem HU (hv : B9 p) (hn : BT p n) {r : AW} (h1 : r.steps.length <= 12) (h2 : r.needs.length <= 1000) : CE n r = some (Dm n r) /\ S2 p r (Dm n r) := by
 obtain ⟨g, z, h, b, e1, e2, e3, e4, e5, e6, e7⟩ := SV hv hn h1 h2
 have hR2 : Dm n r = ⟨r.frm, r.to, r.fin, r.steps, r.needs, g, z, h, b⟩ := by unfold Dm; rw [e1]; rfl
 refine ⟨by rw [hR2, e1], ?_⟩
 rw [hR2]
 exact ⟨rfl, rfl, rfl, rfl, rfl, e2, e3, e4, e5, e6, e7⟩
theorem W7 {α : Type} (l m : List α) (x y : α) : A0 (l ++ x :: m) (l.length : Int) y = l ++ y :: m := by
 show (l ++ x :: m).set (l.length : Int).toNat y = _
 rw [Int.toNat_natCast]
 simp
theorem Ul {l : List AW} (f : AW -> AW) {β : Type} {step : Int × List AW -> Option ((Int × List AW) ⊕ β)} {fin : List AW -> β} (hl : l.length <= 1000)
  (h0 : ∀ c, c.length = l.length -> step ((l.length : Int), c) = some (.inr (fin c))) (h1 : ∀ (i : Nat) r c, l[i]? = some r -> c[i]? = some r -> c.length = l.length -> step ((i : Int), c) = some (.inl (((i + 1 : Nat) : Int), A0 c (i : Int) (f r)))) : AO step ((0 : Int), l) = some (fin (l.map f)) := by
 obtain ⟨b, h2, rfl⟩ := B7 (l := l) (step := step) (Post := fun b => b = fin (l.map f)) (fun i c => c = (l.take i).map f ++ l.drop i) (c := l)
  (fun c hc => ⟨fin c, h0 c (by rw [hc]; simp), by rw [hc, List.take_length, List.drop_length, List.append_nil]⟩)
  (fun i r c hr hc => by
   have hi := BW hr
   have hd : l.drop i = r :: l.drop (i + 1) := by
    obtain ⟨h, e⟩ := List.getElem?_eq_some_iff.1 hr
    rw [List.drop_eq_getElem_cons h, e]
   have hlen : ((l.take i).map f).length = i := by simp; omega
   have hci : c[i]? = some r := by
    rw [hc, hd, List.getElem?_append_right (by omega), hlen]; simp
   refine .inr ⟨A0 c (i : Int) (f r), h1 i r c hr hci (by rw [hc]; simp; omega), ?_⟩
   have := W7 ((l.take i).map f) (l.drop (i + 1)) r (f r)
   rw [hlen] at this
   rw [hc, hd, this, List.take_add_one, hr]
   simp)
  (by simp)
 exact h2
end
end Go.E
/- Plain Lean: what is built is fine (law ProofBuilt); what a chart without one of its roads lacks, and with one of them twice (law ProofLacks). No condition. -/
namespace Go.E
open Go
section
variable {p : AK} {n : A4}
theorem flank_holds (hv : B9 p) (hn : BT p n) {r : AW} (h1 : r.steps.length <= 12) (h2 : r.needs.length <= 1000) : ∃ R, CE n r = some R /\ ∀ s ∈ R.holds, 0 <= s /\ s < (p.signals.length : Int) := by
 have hj := hv.nj
 have hp := Gk (p := p) r.steps
 rw [G4 hv hn h1 h2]
 exact Dt (step := Bs n r r.steps r.needs p) (Post := fun R => ∀ s ∈ R.holds, 0 <= s /\ s < (p.signals.length : Int))
  (fun k s => FI p r.steps 700 k s.2.1 s.2.2.1 s.2.2.2.1 s.2.2.2.2.1 s.2.2.2.2.2 /\ ∀ q ∈ s.2.2.2.2.1, 0 <= q /\ q < (p.signals.length : Int)) 700 (s := (false, [], [], [], [], (CV p (CN p r.steps)).reverse)) (by
   rintro k ⟨b, vis, g, z, h, l⟩ ⟨hi, hh⟩
   have hm := hi.meas
   have hlg := hi.lg
   have hlh := hi.lh
   have hzl := hi.zok.len
   dsimp only at hm hlg hlh hzl hi hh
   rcases List.eq_nil_or_concat l with rfl | ⟨l', x, rfl⟩
   .left
    exact ⟨_, rfl, hh⟩
   .right
    rw [List.concat_eq_append] at hi hm ⊢
    simp only [List.length_append, List.length_cons, List.length_nil] at hm
    refine ⟨by omega, _, MD hn h1 h2 b vis g z h l' x (by omega) (by omega) (by omega) (by omega), Pr hv hi rfl, ?_⟩
    unfold MB
    split
    .exact hh
    split
    .rename_i c
     dsimp only
     split
     .exact hh
     intro q hq
     rcases List.mem_append.1 hq with hq | hq
     .exact hh q hq
     rw [List.mem_singleton.1 hq]
     rcases M3 p x with e | e <;> omega
    split
    .exact hh
    split
    .split
     .exact hh
     split <;> exact hh
    split <;> exact hh) (by
   refine ⟨⟨⟨by simp, by simp, by simp, by simp⟩, ⟨by simp, by simp⟩, fun _ => rfl, fun y hy => ?_, by simp, by simp, ?_⟩, by simp⟩
   .have := List.mem_reverse.1 hy
    obtain ⟨x, hx, rfl⟩ := List.mem_map.1 this
    obtain ⟨y, hy⟩ := Hz hx
    rw [hy]
    exact HT hy
   have h3 : LN p [] <= (Bq p).length := List.length_filter_le _ _
   have h4 : (Bq p).length = 2 * p.joins.length := FL _
   simp only [CV, List.length_reverse, List.length_map]
   omega)
theorem Rx (hv : B9 p) (hn : BT p n) {s : Int} {r : AW} (hr : r ∈ FF p s) (hb : (Dm n r).bare = false) : NB p (Dm n r) := by
 have h1 := Eb hr
 have h2 : r.needs.length <= 1000 := by have := (Cf hr).2.2.2.2.2.2.2.2; omega
 obtain ⟨e1, f⟩ := HU hv hn h1 h2
 obtain ⟨R, e2, hh⟩ := flank_holds hv hn h1 h2
 rw [e1] at e2
 cases e2
 obtain ⟨vis, hk⟩ := f.keep
 rw [hb] at hk
 obtain ⟨hok, hpw⟩ := WV (Vh hr) f.guards
 have hc : HB (r.needs ++ (Dm n r).guards) := Tu hpw
 refine ⟨by rw [f.needs]; exact hc, fun m hm => (f.guards.ok m hm).2, fun e he => ?_, hh, ?_⟩
 .have := L7 (f.zone.rng e he)
  exact ⟨this.1, this.2, by rw [f.steps]; exact (f.zone.own e he).1⟩
 rw [f.needs, f.steps]
 exact Tv hv.join hk hc
theorem Vl (hv : B9 p) (hn : BT p n) {s : Int} {r : AW} (hr : r ∈ FF p s) : I1 p (Dm n r) = true := by
 obtain ⟨_, f⟩ := HU hv hn (Eb hr) (show r.needs.length <= 1000 by have := (Cf hr).2.2.2.2.2.2.2.2; omega)
 have := (Cf hr).1
 unfold I1 at this ⊢
 rw [f.frm, f.steps, f.fin, f.to, f.needs]
 exact this
theorem T1 (hv : B9 p) (hn : BT p n) {s : Int} {r : AW} (hr : r ∈ FF p s) : Rw n (Dm n r) = (Dm n r).bare := by
 have h1 := Eb hr
 have h2 : r.needs.length <= 1000 := by have := (Cf hr).2.2.2.2.2.2.2.2; omega
 obtain ⟨e1, f⟩ := HU hv hn h1 h2
 have : CE n (Dm n r) = CE n r := by
  rw [G4 hv hn h1 h2, G4 hv hn (r := Dm n r) (by rw [f.steps]; exact h1) (by rw [f.needs]; exact h2), f.steps, f.needs]
  rw [Tq (r := r) (r' := Dm n r) f.frm f.to f.fin r.steps r.needs]
 unfold Rw
 rw [this, e1]
 rfl
theorem QV (hv : B9 p) {s s' : Int} {a b : AW} (ha : a ∈ FF p s) (hb : b ∈ FF p s') (h : a.steps = b.steps) : a = b /\ s = s' := by
 have fa := Cf ha
 have fb := Cf hb
 have e := Uj hv fa.1 fb.1 h
 obtain ⟨s1, n1, l1, a1, a2, a3, a4, a5, a6, a7⟩ := HS fa.1
 obtain ⟨s2, n2, l2, b1, b2, b3, b4, b5, b6, b7⟩ := HS fb.1
 rw [e, b1] at a1
 have e1 : s2 = s1 := Option.some.inj a1
 subst e1
 rw [h, b4] at a4
 have e2 : n2 = n1 := Option.some.inj a4
 rw [h, b5] at a5
 have e3 : l2 = l1 := Option.some.inj a5
 subst e3
 have e4 : a.fin = b.fin /\ a.to = b.to := by
  unfold Ib at a6 b6
  split at a6
  .rename_i k
   rw [if_pos k] at b6
   simp only [decide_eq_true_eq] at a6 b6
   exact ⟨by rw [a6.1, b6.1], by rw [a6.2, b6.2]⟩
  rename_i k
  rw [if_neg k] at b6
  split at a6
  .rename_i k2
   rw [if_pos k2] at b6
   simp only [decide_eq_true_eq] at a6 b6
   exact ⟨by rw [a6.1, b6.1], by rw [a6.2, b6.2]⟩
  rename_i k2
  rw [if_neg k2] at b6
  simp only [Bool.and_eq_true, decide_eq_true_eq] at a6 b6
  exact ⟨by rw [a6.2.1, b6.2.1], by rw [a6.2.2, b6.2.2]⟩
 refine ⟨VU.2 ⟨e, e4.2, e4.1, h, by rw [a7, b7, e2], by rw [fa.2.2.1, fb.2.2.1], by rw [fa.2.2.2.1, fb.2.2.2.1], by rw [fa.2.2.2.2.1, fb.2.2.2.2.1], by rw [fa.2.2.2.2.2.1, fb.2.2.2.2.2.1]⟩, ?_⟩
 rw [<- fa.2.1, <- fb.2.1, e]
theorem HV (hv : B9 p) : ∀ i : Nat, (JD p i).Nodup /\ ∀ r ∈ JD p i, ∃ s : Nat, s < i /\ r ∈ FF p (s : Int)
 | 0 => ⟨by simp [JD], by simp [JD]⟩
 | i + 1 => by
  obtain ⟨h1, h2⟩ := HV hv i
  rw [M5]
  refine ⟨List.nodup_append.2 ⟨h1, Uc _, fun a ha b hb e => ?_⟩, fun r hr => ?_⟩
  .obtain ⟨s, hs, hm⟩ := h2 a ha
   have := (QV hv hm hb (by rw [e])).2
   omega
  rcases List.mem_append.1 hr with hr | hr
  .obtain ⟨s, hs, hm⟩ := h2 r hr
   exact ⟨s, by omega, hm⟩
  exact ⟨i, by omega, hr⟩
theorem W8 {s : Nat} {r : AW} (hs : s < p.signals.length) (hr : r ∈ FF p (s : Int)) : r ∈ Ga p := by
 unfold Ga JD
 exact List.mem_flatMap.2 ⟨s, List.mem_range.2 hs, hr⟩
structure Ic (p : AK) (n : A4) (l : List AW) : Prop where
 eq : l = (Ga p).map (Dm n)
 len : l.length <= 64
theorem Ic.road (hv : B9 p) (hn : BT p n) {l : List AW} (hb : Ic p n l) {q : AW} (hq : q ∈ l) : ∃ (s : Nat) (r : AW), s < p.signals.length /\ r ∈ FF p (s : Int) /\ q = Dm n r /\ S2 p r q /\ q.frm = (s : Int) := by
 rw [hb.eq] at hq
 obtain ⟨r, hr, rfl⟩ := List.mem_map.1 hq
 obtain ⟨s, hs, hm⟩ := (HV hv p.signals.length).2 r hr
 obtain ⟨_, f⟩ := HU hv hn (Eb hm) (show r.needs.length <= 1000 by have := (Cf hm).2.2.2.2.2.2.2.2; omega)
 exact ⟨s, r, hs, hm, rfl, f, by rw [f.frm]; exact (Cf hm).2.1⟩
theorem Ic.light (hv : B9 p) (hn : BT p n) {l : List AW} (hb : Ic p n l) {q : AW} (hq : q ∈ l) : Ui q := by
 obtain ⟨s, r, _, hm, rfl, f, _⟩ := hb.road hv hn hq
 have h2 := (Cf hm).2.2.2.2.2.2.2.2
 have hz := f.zone.len; have hg := f.lg; have hh := f.lh
 exact ⟨by rw [f.needs]; omega, by omega, by omega, by omega⟩
theorem Ic.inj (hv : B9 p) (hn : BT p n) {l : List AW} (hb : Ic p n l) {i k : Nat} {a b : AW} (ha : l[i]? = some a) (hk : l[k]? = some b) (h : a.steps = b.steps) : i = k := by
 rw [hb.eq, List.getElem?_map] at ha hk
 obtain ⟨x, hx, rfl⟩ := Option.map_eq_some_iff.1 ha
 obtain ⟨y, hy, rfl⟩ := Option.map_eq_some_iff.1 hk
 obtain ⟨s, hs, hm⟩ := (HV hv p.signals.length).2 x (List.mem_of_getElem? hx)
 obtain ⟨s', hs', hm'⟩ := (HV hv p.signals.length).2 y (List.mem_of_getElem? hy)
 obtain ⟨_, f⟩ := HU hv hn (Eb hm) (show x.needs.length <= 1000 by have := (Cf hm).2.2.2.2.2.2.2.2; omega)
 obtain ⟨_, f'⟩ := HU hv hn (Eb hm') (show y.needs.length <= 1000 by have := (Cf hm').2.2.2.2.2.2.2.2; omega)
 rw [f.steps, f'.steps] at h
 have e := (QV hv hm hm' h).1
 subst e
 have hnd := (HV hv p.signals.length).1
 obtain ⟨h1, h2⟩ := List.getElem?_eq_some_iff.1 hx
 obtain ⟨h3, h4⟩ := List.getElem?_eq_some_iff.1 hy
 exact (List.getElem_inj hnd).1 (h2.trans h4.symm)
theorem Ic.have (hv : B9 p) (hn : BT p n) {l : List AW} (hb : Ic p n l) {s : Nat} {r : AW} (hs : s < p.signals.length) (hr : r ∈ FF p (s : Int)) : ∃ q ∈ l, q = Dm n r /\ q.steps = r.steps := by
 obtain ⟨_, f⟩ := HU hv hn (Eb hr) (show r.needs.length <= 1000 by have := (Cf hr).2.2.2.2.2.2.2.2; omega)
 exact ⟨_, by rw [hb.eq]; exact List.mem_map.2 ⟨r, W8 hs hr, rfl⟩, rfl, f.steps⟩
theorem SX (hv : B9 p) (hn : BT p n) {l : List AW} (hb : Ic p n l) : NE p n l = some (0, -1) := by
 unfold NE
 have hl := hb.len
 rw [if_neg (by omega)]
 have c1 : CG (fun _ r => !I1 p r) 0 l = none := (Ek l 0).2 fun k a ha => by
  obtain ⟨s, r, _, hm, rfl, _, _⟩ := hb.road hv hn (List.mem_of_getElem? ha)
  simp [Vl hv hn hm]
 have c2 : CG (fun i r => Gp (l.take i) r.steps) 0 l = none := (Ek l 0).2 fun k a ha => by
  rw [Nat.zero_add, <- Bool.not_eq_true, MG]
  rintro ⟨x, hx, he⟩
  obtain ⟨i, hi, hx2⟩ := L0 hx
  have := hb.inj hv hn hx2 ha he
  omega
 have c3 : CG (fun s (_ : Be) => Na p l s) 0 p.signals = none := (Ek p.signals 0).2 fun k a ha => by
  rw [Nat.zero_add]
  unfold Na
  refine List.any_eq_false.2 fun r hr => ?_
  obtain ⟨q, hq, _, hs⟩ := hb.have hv hn (BW ha) hr
  have : Gp l r.steps = true := MG.2 ⟨q, hq, hs⟩
  simp [this]
 have c4 : CG (fun _ r => !r.bare && !J0 p r) 0 l = none := (Ek l 0).2 fun k a ha => by
  obtain ⟨s, r, _, hm, rfl, _, _⟩ := hb.road hv hn (List.mem_of_getElem? ha)
  cases hbr : (Dm n r).bare with
  | true => rfl
  | false =>
   have := PK.2 (Rx hv hn hm hbr)
   simp [this]
 have c5 : CG (fun _ r => r.bare != Rw n r) 0 l = none := (Ek l 0).2 fun k a ha => by
  obtain ⟨s, r, _, hm, rfl, _, _⟩ := hb.road hv hn (List.mem_of_getElem? ha)
  simp [T1 hv hn hm]
 rw [c1, c2, c3, c4, c5]
 rfl
theorem Vm (hv : B9 p) (hN : FJ p = some (some n, 0)) (hn : BT p n) : ∃ c e, EF p = some (c, e) /\ ((e = 0 /\ c.plan = p /\ Ic p n c.roads) \/ e = 3) := by
 unfold EF
 have e6 : B4 n = some p := by unfold B4; rw [hn.plan, NY p hv.few]; rfl
 simp only [hN, Option.bind_some, Pd, bne_self_eq_false, cond_false, SP hn hv.ns]
 by_cases c : 64 < (Ga p).length
 .have : M6 p = ([], 3) := by unfold M6; rw [if_pos c]
  rw [this]
  exact ⟨_, 3, rfl, .inr rfl⟩
 have ha : M6 p = (Ga p, 0) := by unfold M6; rw [if_neg c]
 rw [ha]
 simp only [bne_self_eq_false, cond_false]
 refine ⟨⟨p, (Ga p).map (Dm n)⟩, 0, ?_, .inl ⟨rfl, rfl, rfl, by simp; omega⟩⟩
 exact Ul (l := Ga p) (Dm n) (step := Dw n (Ga p, 0)) (fin := fun l => ((⟨p, l⟩ : D7), (0 : Int))) (by omega) (fun q hq => by
  simp only [Dw, Bx, cond_false, e6, Option.bind_some]; rfl) (fun i r q hr hq hlen => by
  have hi := BW hr
  obtain ⟨s, hs, hm⟩ := (HV hv p.signals.length).2 r (List.mem_of_getElem? hr)
  have f2 := (HU hv hn (r := r) (Eb hm) (by have := (Cf hm).2.2.2.2.2.2.2.2; omega)).1
  simp only [Dw, BR hr, cond_true, Ac, hq, Option.bind_some, f2, AZ (show i < 1000000000 by omega)])
theorem PL (p : AK) : Fb p = some true := by
 unfold Fb
 simp only [WN, Option.bind_some, Bool.not_true, cond_false]
 obtain ⟨b0, h1, h2⟩ := Tn p
 simp only [h1, Option.bind_some]
 cases b0 with
 | false => rfl
 | true =>
  have hv := h2 rfl
  obtain ⟨n, hN, hn⟩ := W0 p hv
  obtain ⟨c, e, e1, e2⟩ := Vm hv hN hn
  simp only [Bool.not_true, cond_false, e1, Option.bind_some]
  rcases e2 with ⟨rfl, e2, e3⟩ | rfl
  .obtain ⟨cp, cl⟩ := c
   simp only at e2 e3
   subst e2
   have hl := e3.len
   simp only [bne_self_eq_false, cond_false, Pv hv hN hn cl (by omega) (fun q hq => e3.light hv hn hq), SX hv hn e3, Option.bind_some]
   rfl
  rfl
end
end Go.E
