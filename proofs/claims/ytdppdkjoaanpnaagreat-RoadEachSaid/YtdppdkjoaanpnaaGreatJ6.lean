/- Plain Lean: whether something is a road: the program's answer and the document's are one. No condition. -/
import Derived.Test.YtdppdkjoaanpnaaGreatJ5
set_option linter.unusedVariables false
set_option linter.unusedSimpArgs false
namespace Go.E
open Go

theorem index_loop {α : Type} {l : List α} {f : α → Bool} (hl : l.length < 1000000) {step : Int → Option (Int ⊕ Int)}
    (h0 : step (l.length : Int) = some (.inr (-1))) (h : ∀ (i : Nat) a, l[i]? = some a → step (i : Int) = if f a = true then some (.inr (i : Int)) else some (.inl ((i + 1 : Nat) : Int))) :
    ∃ t, loopR step 0 = some t ∧ ((t = -1 ∧ l.find? f = none) ∨ ∃ a, 0 ≤ t ∧ l.find? f = some a ∧ idx l t = some a) := by
  have key : ∀ (r : List α) (i : Nat), l.drop i = r → i ≤ l.length → ∃ t, loopR step (i : Int) = some t ∧ ((t = -1 ∧ r.find? f = none) ∨ ∃ a, 0 ≤ t ∧ r.find? f = some a ∧ idx l t = some a) := by
    intro r
    induction r with
    | nil =>
      intro i hd hi
      have : i = l.length := by have := congrArg List.length hd; simp at this; omega
      subst this
      exact ⟨-1, loopR_inr h0, .inl ⟨rfl, rfl⟩⟩
    | cons a r ih =>
      intro i hd hi
      have hlt : i < l.length := by have := congrArg List.length hd; simp at this; omega
      have ha : l[i]? = some a := by
        have : (l.drop i)[0]? = some a := by rw [hd]; rfl
        simpa using this
      have hr : l.drop (i + 1) = r := by
        have : (l.drop i).drop 1 = r := by rw [hd]; rfl
        rwa [List.drop_drop] at this
      by_cases c : f a = true
      · exact ⟨i, loopR_inr (by rw [h i a ha, if_pos c]), .inr ⟨a, by omega, by simp [c], by rw [idx_nat, ha]⟩⟩
      · obtain ⟨t, h1, h2⟩ := ih (i + 1) hr (by omega)
        refine ⟨t, by rw [loopR_inl (by rw [h i a ha, if_neg c]), h1], ?_⟩
        simpa [List.find?_cons, c] using h2
  exact key l 0 rfl (Nat.zero_le _)

def wayF (l : List Way) (o : Int) : Option Way := l.find? fun w => w.out == o

/-- The needs of steps that follow from a port on, if they may follow. -/
def stepsF (p : Plan) (a : Int) : Option Port → List Step → List Need → List Step → Option (List Need)
  | _, _, nd, [] => some nd
  | none, _, _, _ :: _ => none
  | some x, pv, nd, s :: r => if s.elem ≠ x.elem ∨ s.in_ ≠ x.fin ∨ s.elem = a ∨ s.elem ∈ pv.map (·.elem) then none else if kindP p s.elem = 4 then (if r = [] ∧ s.out = -1 then some nd else none) else match wayF (outsP p s.elem s.in_) s.out with
    | none => none
    | some w => if r ≠ [] ∧ 0 ≤ readsP p ⟨s.elem, s.out⟩ then none else stepsF p a (nextP p ⟨s.elem, s.out⟩) (pv ++ [s]) (addN nd s.elem w.pos) r

def tailF (p : Plan) (fin to : Int) (l : Step) : Bool :=
  if kindP p l.elem = 4 then decide (fin = 2 ∧ to = -1) else if 0 ≤ readsP p ⟨l.elem, l.out⟩ then decide (fin = 1 ∧ to = readsP p ⟨l.elem, l.out⟩) else (nextP p ⟨l.elem, l.out⟩).isNone && decide (fin = 3 ∧ to = -1)

/-- Is it a road (but for its flank)? -/
def isF (p : Plan) (r : Road) : Bool := match idx p.signals r.frm with
  | none => false
  | some sg => if r.steps.length < 1 ∨ 12 < r.steps.length then false else match stepsF p sg.at_.elem (nextP p sg.at_) [] [] r.steps with
    | none => false
    | some nd => match r.steps.getLast? with
      | none => false
      | some l => tailF p r.fin r.to l && decide (r.needs = nd)

theorem stepsF_len {p : Plan} {a : Int} : ∀ {r : List Step} {x : Option Port} {pv : List Step} {nd nd' : List Need}, stepsF p a x pv nd r = some nd' → nd'.length ≤ nd.length + r.length
  | [], x, pv, nd, nd', h => by
    have : nd = nd' := by cases x <;> simpa [stepsF] using h
    subst this; simp
  | s :: r, none, pv, nd, nd', h => by simp [stepsF] at h
  | s :: r, some x, pv, nd, nd', h => by
    unfold stepsF at h
    split at h
    · cases h
    · split at h
      · split at h
        · cases h; simp
        · cases h
      · split at h
        · cases h
        · split at h
          · cases h
          · have h1 := stepsF_len h
            rename_i w _ _
            have h2 := addN_len nd s.elem w.pos
            simp only [List.length_cons]; omega

section
variable {p : Plan} {n : Net}

theorem pre_loop (r : Road) (e : Step) (i : Nat) (hl : r.steps.length < 1000) : ∃ t, loopR (g_road_Is_l2 e (r.steps.take i)) 0 = some t ∧ decide (0 ≤ t) = decide (e.elem ∈ (r.steps.take i).map (·.elem)) := by
  obtain ⟨t, h1, h2⟩ := index_loop (l := r.steps.take i) (f := fun s => s.elem == e.elem) (step := g_road_Is_l2 e (r.steps.take i)) (by rw [List.length_take]; omega)
    (by simp [g_road_Is_l2]) (fun j s hs => by
      have := ilt hs
      rw [List.length_take] at this
      simp only [g_road_Is_l2, g_road_Is_1, dlt hs, cond_true, idx_nat, hs, Option.bind_some, wi64_succ (show j < 1000000000 by omega)]
      by_cases c : s.elem = e.elem <;> simp [c, cbeq])
  refine ⟨t, h1, ?_⟩
  rcases h2 with ⟨rfl, h⟩ | ⟨s, h3, h4, _⟩
  · rw [show decide ((0 : Int) ≤ -1) = false by decide]
    symm; rw [decide_eq_false_iff_not]; intro hm
    obtain ⟨s, hs, he⟩ := List.mem_map.1 hm
    have := List.find?_eq_none.1 h s hs
    simp [he] at this
  · rw [decide_eq_true h3]
    symm; rw [decide_eq_true_iff]
    have := List.find?_some h4
    exact List.mem_map.2 ⟨s, List.mem_of_find?_eq_some h4, by simpa using this⟩

theorem way_loop (s : Step) (l : List Way) (hl : l.length < 1000) : ∃ t, loopR (g_road_Is_l3 s l) 0 = some t ∧ ((t = -1 ∧ wayF l s.out = none) ∨ ∃ w, 0 ≤ t ∧ wayF l s.out = some w ∧ idx l t = some w) := by
  obtain ⟨t, h1, h2⟩ := index_loop (l := l) (f := fun w => w.out == s.out) (step := g_road_Is_l3 s l) (by omega)
    (by simp [g_road_Is_l3]) (fun j w hs => by
      have := ilt hs
      simp only [g_road_Is_l3, g_road_Is_2, dlt hs, cond_true, idx_nat, hs, Option.bind_some, wi64_succ (show j < 1000000000 by omega)]
      by_cases c : w.out = s.out <;> simp [c, cbeq])
  exact ⟨t, h1, h2⟩

theorem take_slI {α : Type} (l : List α) (i : Nat) (h : i ≤ l.length) : slI l 0 (i : Int) = some (l.take i) := by
  unfold slI
  rw [if_pos ⟨by omega, by omega, by omega⟩]; simp

/-- What the program's loop over the steps makes of them. -/
def sumF (o : Option (List Need)) : List Need ⊕ Bool := match o with | none => .inr false | some nd => .inl nd

theorem Is_loop (hn : NetOf p n) (r : Road) (a : Port) (b : Bool) (hl : r.steps.length ≤ 12) : ∀ (l : List Step) (i : Nat) (x : Option Port) (nd : List Need), r.steps.drop i = l → i ≤ r.steps.length → nd.length ≤ i →
    loopR (g_road_Is_l1 n r (a, b)) (x.isSome, (i : Int), (x.getD ⟨0, 0⟩).elem, (x.getD ⟨0, 0⟩).fin, nd) = some (sumF (stepsF p a.elem x (r.steps.take i) nd l))
  | [], i, x, nd, hd, hi, hnd => by
    have : i = r.steps.length := by have := congrArg List.length hd; simp at this; omega
    subst this
    refine loopR_inr ?_
    have : stepsF p a.elem x (r.steps.take r.steps.length) nd [] = some nd := by cases x <;> rfl
    rw [this]
    simp only [g_road_Is_l1, dge, cond_false]; rfl
  | s :: l, i, x, nd, hd, hi, hnd => by
    have hlt : i < r.steps.length := by have := congrArg List.length hd; simp at this; omega
    have hs : r.steps[i]? = some s := by
      have : (r.steps.drop i)[0]? = some s := by rw [hd]; rfl
      simpa using this
    have hr : r.steps.drop (i + 1) = l := by
      have : (r.steps.drop i).drop 1 = l := by rw [hd]; rfl
      rwa [List.drop_drop] at this
    have htk : r.steps.take (i + 1) = r.steps.take i ++ [s] := by rw [List.take_add_one, hs]; rfl
    have hw : wi64 ((r.steps.length : Int) - 1) = (r.steps.length : Int) - 1 := by rw [wi64_id] <;> omega
    have hlast : ((i : Int) == (r.steps.length : Int) - 1) = decide (l = []) := by
      have hlen := congrArg List.length hr
      rw [List.length_drop] at hlen
      by_cases c : l = []
      · subst c; simp at hlen; rw [beq_iff_eq.2 (by omega)]; simp
      · have : l.length ≠ 0 := fun h => c (List.length_eq_zero_iff.1 h)
        rw [beq_eq_false_iff_ne.2 (by omega)]; simp [c]
    cases x with
    | none =>
      refine loopR_inr ?_
      simp only [g_road_Is_l1, dlt hs, cond_true, idx_nat, hs, Option.bind_some, Option.isSome_none, Bool.not_false]
      rfl
    | some y =>
      have e0 : ∀ (c : Prop) [Decidable c], c → (s.elem ≠ y.elem ∨ s.in_ ≠ y.fin ∨ s.elem = a.elem ∨ s.elem ∈ (r.steps.take i).map (·.elem)) → True := fun _ _ _ _ => trivial
      by_cases c1 : s.elem = y.elem
      · by_cases c2 : s.in_ = y.fin
        · by_cases c3 : s.elem = a.elem
          · refine loopR_inr ?_
            unfold stepsF
            rw [if_pos (.inr (.inr (.inl c3)))]
            simp only [g_road_Is_l1, dlt hs, cond_true, idx_nat, hs, Option.bind_some, Option.isSome_some, Option.getD_some, Bool.not_true, cond_false, cbne, cbeq, if_pos c1, if_pos c2, if_pos c3]
            rfl
          · obtain ⟨t, t1, t2⟩ := pre_loop r s i (by omega)
            by_cases c4 : s.elem ∈ (r.steps.take i).map (·.elem)
            · refine loopR_inr ?_
              unfold stepsF
              rw [if_pos (.inr (.inr (.inr c4)))]
              rw [decide_eq_true c4] at t2
              simp only [g_road_Is_l1, dlt hs, cond_true, idx_nat, hs, Option.bind_some, Option.isSome_some, Option.getD_some, Bool.not_true, cond_false, cbne, cbeq, if_pos c1, if_pos c2, if_neg c3, take_slI r.steps i hi, t1, t2]
              rfl
            · rw [decide_eq_false c4] at t2
              unfold stepsF
              rw [if_neg (by rintro (h | h | h | h) <;> first | exact h c1 | exact h c2 | exact c3 h | exact c4 h)]
              by_cases k4 : kindP p s.elem = 4
              · refine loopR_inr ?_
                rw [if_pos k4]
                simp only [g_road_Is_l1, dlt hs, cond_true, idx_nat, hs, Option.bind_some, Option.isSome_some, Option.getD_some, Bool.not_true, cond_false, cbne, cbeq, if_pos c1, if_pos c2, if_neg c3, take_slI r.steps i hi, t1, t2, net_Kind hn, if_pos k4, hw, hlast]
                by_cases d1 : l = []
                · by_cases d2 : s.out = -1
                  · simp [d1, d2, sumF]
                  · simp [d1, d2, sumF, cbne]
                · simp [d1, sumF]
              · rw [if_neg k4]
                obtain ⟨u, u1, u2⟩ := way_loop s (outsP p s.elem s.in_) (by have := outsP_len p s.elem s.in_; omega)
                rcases u2 with ⟨rfl, u2⟩ | ⟨w, u2, u3, u4⟩
                · refine loopR_inr ?_
                  rw [u2]
                  simp only [g_road_Is_l1, dlt hs, cond_true, idx_nat, hs, Option.bind_some, Option.isSome_some, Option.getD_some, Bool.not_true, cond_false, cbne, cbeq, if_pos c1, if_pos c2, if_neg c3, take_slI r.steps i hi, t1, t2, net_Kind hn, if_neg k4, net_Outs hn, u1, show decide ((-1 : Int) < 0) = true by decide]
                  rfl
                · rw [u3]
                  dsimp only
                  have du : decide (u < 0) = false := by simp; omega
                  have hnl : (addN nd s.elem w.pos).length ≤ i + 1 := by have := addN_len nd s.elem w.pos; omega
                  have hneed : ((bif w.pos != 0 then (appI nd [(⟨s.elem, w.pos⟩ : Need)]).bind fun y => some y else some nd : Option (List Need))) = some (addN nd s.elem w.pos) := by
                    rw [cbne]; unfold addN
                    by_cases e : w.pos = 0
                    · simp [e]
                    · simp only [if_neg e]
                      rw [appI_ok (by simp; omega)]; rfl
                  simp only [cbne] at hneed
                  by_cases d1 : l = []
                  · simp only [d1, ne_eq, not_true_eq_false, false_and, if_false]
                    have ih := Is_loop hn r a b hl l (i + 1) (nextP p ⟨s.elem, s.out⟩) (addN nd s.elem w.pos) hr (by omega) hnl
                    rw [htk, d1] at ih
                    rw [← ih]
                    refine loopR_inl ?_
                    simp only [g_road_Is_l1, dlt hs, cond_true, idx_nat, hs, Option.bind_some, Option.isSome_some, Option.getD_some, Bool.not_true, cond_false, cbne, cbeq, if_pos c1, if_pos c2, if_neg c3, take_slI r.steps i hi, t1, t2, net_Kind hn, if_neg k4, net_Outs hn, u1, du, u4, hneed, hw, hlast, d1, decide_true, net_Next hn, wi64_succ (show i < 1000000000 by omega)]
                  · by_cases d2 : 0 ≤ readsP p ⟨s.elem, s.out⟩
                    · rw [if_pos ⟨d1, d2⟩]
                      refine loopR_inr ?_
                      simp only [g_road_Is_l1, dlt hs, cond_true, idx_nat, hs, Option.bind_some, Option.isSome_some, Option.getD_some, Bool.not_true, cond_false, cbne, cbeq, if_pos c1, if_pos c2, if_neg c3, take_slI r.steps i hi, t1, t2, net_Kind hn, if_neg k4, net_Outs hn, u1, du, u4, hneed, hw, hlast, d1, decide_false, Bool.not_false, net_Reads hn, d2, decide_true]
                      rfl
                    · rw [if_neg (fun h => d2 h.2)]
                      have ih := Is_loop hn r a b hl l (i + 1) (nextP p ⟨s.elem, s.out⟩) (addN nd s.elem w.pos) hr (by omega) hnl
                      rw [htk] at ih
                      rw [← ih]
                      refine loopR_inl ?_
                      simp only [g_road_Is_l1, dlt hs, cond_true, idx_nat, hs, Option.bind_some, Option.isSome_some, Option.getD_some, Bool.not_true, cond_false, cbne, cbeq, if_pos c1, if_pos c2, if_neg c3, take_slI r.steps i hi, t1, t2, net_Kind hn, if_neg k4, net_Outs hn, u1, du, u4, hneed, hw, hlast, d1, decide_false, Bool.not_false, net_Reads hn, d2, net_Next hn, wi64_succ (show i < 1000000000 by omega)]
        · refine loopR_inr ?_
          unfold stepsF
          rw [if_pos (.inr (.inl c2))]
          simp only [g_road_Is_l1, dlt hs, cond_true, idx_nat, hs, Option.bind_some, Option.isSome_some, Option.getD_some, Bool.not_true, cond_false, cbne, cbeq, if_pos c1, if_neg c2]
          rfl
      · refine loopR_inr ?_
        unfold stepsF
        rw [if_pos (.inl c1)]
        simp only [g_road_Is_l1, dlt hs, cond_true, idx_nat, hs, Option.bind_some, Option.isSome_some, Option.getD_some, Bool.not_true, cond_false, cbne, cbeq, if_neg c1]
        rfl

theorem ends_eq (hn : NetOf p n) (r : Road) (l : Step) : g_road_ends n r l = some (tailF p r.fin r.to l) := by
  unfold g_road_ends tailF
  simp only [net_Kind hn, net_Reads hn, net_Next hn, Option.bind_some, cbeq]
  by_cases h1 : kindP p l.elem = 4
  · by_cases h2 : r.fin = 2 <;> simp [h1, h2, Bool.beq_eq_decide_eq]
    all_goals try rfl
  · by_cases h2 : 0 ≤ readsP p ⟨l.elem, l.out⟩
    · by_cases h3 : r.fin = 1 <;> simp [h1, h2, h3]
      all_goals try rfl
    · cases nextP p ⟨l.elem, l.out⟩ with
      | none =>
        by_cases h3 : r.fin = 3 <;> simp [h1, h2, h3]
        all_goals try rfl
      | some y => simp [h1, h2]

theorem last_idx {α : Type} (l : List α) (h : 1 ≤ l.length) (h2 : l.length < 1000000) : idx l (wi64 ((l.length : Int) - 1)) = l.getLast? := by
  have : wi64 ((l.length : Int) - 1) = ((l.length - 1 : Nat) : Int) := by rw [wi64_id] <;> omega
  rw [this, idx_nat, List.getLast?_eq_getElem?]

theorem road_Is_eq (hn : NetOf p n) (r : Road) (h2 : r.needs.length ≤ 1000) : g_road_Is n r = some (isF p r) := by
  unfold g_road_Is isF
  rw [net_At_eq hn]
  cases hi : idx p.signals r.frm with
  | none => rfl
  | some sg =>
    simp only [Option.bind_some, Bool.not_true, cond_false]
    by_cases c1 : r.steps.length < 1
    · have d : decide ((r.steps.length : Int) < 1) = true := by simp; omega
      rw [if_pos (.inl c1)]
      simp only [d, cond_true, Option.bind_some]
    · have d : decide ((r.steps.length : Int) < 1) = false := by simp; omega
      by_cases c2 : 12 < r.steps.length
      · have d2 : decide (12 < (r.steps.length : Int)) = true := by simp; omega
        rw [if_pos (.inr c2)]
        simp only [d, d2, cond_true, cond_false, Option.bind_some]
      · have d2 : decide (12 < (r.steps.length : Int)) = false := by simp; omega
        rw [if_neg (by omega)]
        simp only [d, d2, cond_false, Option.bind_some, net_Next hn]
        have hloop := Is_loop hn r sg.at_ true (by omega) r.steps 0 (nextP p sg.at_) [] rfl (by omega) (by simp)
        rw [List.take_zero] at hloop
        rw [show ((0 : Nat) : Int) = 0 from rfl] at hloop
        rw [hloop]
        cases hs : stepsF p sg.at_.elem (nextP p sg.at_) [] [] r.steps with
        | none => rfl
        | some nd =>
          have hlen := stepsF_len hs
          rw [last_idx r.steps (by omega) (by omega)]
          obtain ⟨l, hl⟩ : ∃ l, r.steps.getLast? = some l := by
            rw [List.getLast?_eq_getElem?]; exact ⟨_, List.getElem?_eq_getElem (by omega)⟩
          simp only [sumF, seqR, Option.bind_some, hl, ends_eq hn, eqNeeds r.needs nd (by omega)]
          cases tailF p r.fin r.to l <;> simp

/-! ### the document's test -/
end
end Go.E
/- Plain Lean: whether something is a road, as the document says; the roads of a signal are roads, and none is told twice. No condition. -/
namespace Go.E
open Go

theorem outs_dist (p : Plan) (e i : Int) : (outsP p e i).Pairwise (fun a b => a.out ≠ b.out) := by
  unfold outsP
  repeat' split
  all_goals simp

theorem wayF_mem : ∀ {l : List Way} {w : Way}, l.Pairwise (fun a b => a.out ≠ b.out) → w ∈ l → wayF l w.out = some w
  | a :: l, w, hp, hm => by
    rw [List.pairwise_cons] at hp
    unfold wayF
    rw [List.find?_cons]
    rcases List.mem_cons.1 hm with rfl | hm
    · simp
    · have := hp.1 w hm
      have e : (a.out == w.out) = false := beq_eq_false_iff_ne.2 this
      simp only [e]
      exact wayF_mem hp.2 hm

section
variable {p : Plan} {n : Net}

/-! ### the roads of a signal are roads -/
/-- A road that goes on from steps. -/
structure OnR (p : Plan) (a s : Int) (x : Port) (st : List Step) (nd : List Need) (r : Road) (t : List Step) : Prop where
  frm : r.frm = s
  guards : r.guards = []
  zone : r.zone = []
  holds : r.holds = []
  bare : r.bare = false
  steps : r.steps = st ++ t
  ne : t ≠ []
  len : r.steps.length ≤ 12
  all : stepsF p a (some x) st nd t = some r.needs
  tail : ∀ l, t.getLast? = some l → tailF p r.fin r.to l = true

theorem onF_road (s a : Int) : ∀ (k : Nat) (st : List Step) (nd : List Need) (x : Port) (r : Road), st.length + k = 13 → r ∈ onF p s k st nd x (a :: st.map (·.elem)) → ∃ t, OnR p a s x st nd r t ∧ ∃ u t', t = u :: t' ∧ u.elem = x.elem ∧ u.in_ = x.fin
  | 0, st, nd, x, r, hk, hr => by simp [onF] at hr
  | k + 1, st, nd, x, r, hk, hr => by
    rw [onF_succ] at hr
    by_cases hm : x.elem ∈ a :: st.map (·.elem) ∨ st.length = 12
    · rw [if_pos hm] at hr; simp at hr
    · rw [if_neg hm] at hr
      have hm1 : x.elem ∉ a :: st.map (·.elem) := fun h => hm (.inl h)
      have hm2 : ¬ (x.elem ≠ x.elem ∨ x.fin ≠ x.fin ∨ x.elem = a ∨ x.elem ∈ st.map (·.elem)) := by
        rintro (h1 | h1 | h1 | h1)
        · exact h1 rfl
        · exact h1 rfl
        · exact hm1 (by rw [h1]; simp)
        · exact hm1 (List.mem_cons_of_mem _ h1)
      have hlen : st.length < 12 := by
        have : st.length ≠ 12 := fun h => hm (.inr h)
        omega
      by_cases k4 : kindP p x.elem = 4
      · rw [if_pos k4] at hr
        simp at hr
        subst hr
        refine ⟨[⟨x.elem, x.fin, -1⟩], ⟨rfl, rfl, rfl, rfl, rfl, rfl, by simp, by simp [mkR]; omega, ?_, ?_⟩, _, _, rfl, rfl, rfl⟩
        · simp only [stepsF, if_neg hm2, if_pos k4, mkR, true_and, if_true]
        · intro l hl
          simp at hl
          subst hl
          simp [tailF, k4, mkR]
      · rw [if_neg k4] at hr
        obtain ⟨w, hw, hr⟩ := List.mem_flatMap.1 hr
        have hway := wayF_mem (outs_dist p x.elem x.fin) hw
        unfold wayR at hr
        by_cases hrd : 0 ≤ readsP p ⟨x.elem, w.out⟩
        · rw [if_pos hrd] at hr
          simp at hr
          subst hr
          refine ⟨[⟨x.elem, x.fin, w.out⟩], ⟨rfl, rfl, rfl, rfl, rfl, rfl, by simp, by simp [mkR]; omega, ?_, ?_⟩, _, _, rfl, rfl, rfl⟩
          · unfold stepsF; rw [if_neg hm2, if_neg k4, hway]; simp [stepsF, mkR]
          · intro l hl
            simp at hl
            subst hl
            simp [tailF, k4, mkR, hrd]
        · rw [if_neg hrd] at hr
          cases hnx : nextP p ⟨x.elem, w.out⟩ with
          | none =>
            rw [hnx] at hr
            simp at hr
            subst hr
            refine ⟨[⟨x.elem, x.fin, w.out⟩], ⟨rfl, rfl, rfl, rfl, rfl, rfl, by simp, by simp [mkR]; omega, ?_, ?_⟩, _, _, rfl, rfl, rfl⟩
            · unfold stepsF; rw [if_neg hm2, if_neg k4, hway]; simp [stepsF, mkR]
            · intro l hl
              simp at hl
              subst hl
              simp [tailF, k4, mkR, hrd, hnx]
          | some y =>
            rw [hnx] at hr
            have hmm : a :: st.map (·.elem) ++ [x.elem] = a :: (st ++ [(⟨x.elem, x.fin, w.out⟩ : Step)]).map (·.elem) := by simp
            simp only at hr
            rw [hmm] at hr
            obtain ⟨t, ht, u, t', htu, -, -⟩ := onF_road s a k (st ++ [⟨x.elem, x.fin, w.out⟩]) (addN nd x.elem w.pos) y r (by simp; omega) hr
            refine ⟨⟨x.elem, x.fin, w.out⟩ :: t, ⟨ht.frm, ht.guards, ht.zone, ht.holds, ht.bare, by rw [ht.steps]; simp, by simp, ht.len, ?_, ?_⟩, _, _, rfl, rfl, rfl⟩
            · unfold stepsF
              rw [if_neg hm2, if_neg k4, hway]
              dsimp only
              rw [if_neg (fun h => hrd h.2), hnx]
              exact ht.all
            · intro l hl
              refine ht.tail l ?_
              rw [htu] at hl ⊢
              rwa [List.getLast?_cons_cons] at hl

theorem ofF_road {s : Int} {r : Road} (h : r ∈ ofF p s) : isF p r = true ∧ r.frm = s ∧ r.guards = [] ∧ r.zone = [] ∧ r.holds = [] ∧ r.bare = false ∧ r.steps.length ≤ 12 ∧ 1 ≤ r.steps.length ∧ r.needs.length ≤ 12 := by
  unfold ofF at h
  cases hi : idx p.signals s with
  | none => rw [hi] at h; simp at h
  | some sg =>
    rw [hi] at h
    simp only at h
    cases hx : nextP p sg.at_ with
    | none => rw [hx] at h; simp at h
    | some y =>
      rw [hx] at h
      simp only at h
      obtain ⟨t, ht, -⟩ := onF_road s sg.at_.elem 13 [] [] y r rfl (by simpa using h)
      have hst : r.steps = t := by rw [ht.steps]; rfl
      have hlen : 1 ≤ r.steps.length := by
        rw [hst]
        exact List.length_pos_iff.2 ht.ne
      have hl2 := ht.len
      have hnl := stepsF_len ht.all
      rw [← hst] at hnl
      simp only [List.length_nil] at hnl
      refine ⟨?_, ht.frm, ht.guards, ht.zone, ht.holds, ht.bare, ht.len, hlen, by omega⟩
      unfold isF
      rw [ht.frm, hi]
      simp only
      rw [if_neg (by omega), hx, hst, ht.all]
      obtain ⟨l, hl⟩ : ∃ l, t.getLast? = some l := by
        rw [List.getLast?_eq_getElem?]
        rw [hst] at hlen
        exact ⟨_, List.getElem?_eq_getElem (by omega)⟩
      simp only [hl, ht.tail l hl, decide_true, Bool.and_true]

theorem LightR_of {r : Road} (h1 : r.steps.length ≤ 12) (h2 : r.needs.length ≤ 12) (h3 : r.guards = []) (h4 : r.zone = []) (h5 : r.holds = []) : LightR r := ⟨by omega, by omega, by simp [h3], by simp [h4], by simp [h5]⟩

theorem ofF_light {s : Int} {r : Road} (h : r ∈ ofF p s) : LightR r := by
  obtain ⟨_, _, h3, h4, h5, _, h6, _, h7⟩ := ofF_road h
  exact LightR_of h6 h7 h3 h4 h5

/-! ### none is told twice -/
theorem wayR_step (s a : Int) (k : Nat) (st : List Step) (nd : List Need) (x : Port) (w : Way) (r : Road) (hk : st.length + (k + 1) = 13) (h : r ∈ wayR p s k st nd x (a :: st.map (·.elem)) w) : r.steps[st.length]? = some ⟨x.elem, x.fin, w.out⟩ := by
  unfold wayR at h
  split at h
  · simp at h; subst h; simp [mkR]
  · split at h
    · simp at h; subst h; simp [mkR]
    · rename_i y hy
      have hmm : a :: st.map (·.elem) ++ [x.elem] = a :: (st ++ [(⟨x.elem, x.fin, w.out⟩ : Step)]).map (·.elem) := by simp
      rw [hmm] at h
      obtain ⟨t, ht, -⟩ := onF_road s a k _ _ y r (by simp; omega) h
      rw [ht.steps]; simp

theorem onF_nodup (s a : Int) : ∀ (k : Nat) (st : List Step) (nd : List Need) (x : Port), st.length + k = 13 → (onF p s k st nd x (a :: st.map (·.elem))).Nodup
  | 0, st, nd, x, hk => by simp [onF]
  | k + 1, st, nd, x, hk => by
    rw [onF_succ]
    split
    · simp
    · split
      · simp
      · unfold List.Nodup; rw [List.pairwise_flatMap]
        refine ⟨fun w hw => ?_, ?_⟩
        · unfold wayR
          split
          · simp
          · split
            · simp
            · rename_i y hy
              have hmm : a :: st.map (·.elem) ++ [x.elem] = a :: (st ++ [(⟨x.elem, x.fin, w.out⟩ : Step)]).map (·.elem) := by simp
              rw [hmm]
              exact onF_nodup s a k _ _ y (by simp; omega)
        · refine (outs_dist p x.elem x.fin).imp fun {w v} hwv => ?_
          rintro r hr1 r2 hr2 rfl
          have h1 := wayR_step s a k st nd x w r (by omega) hr1
          have h2 := wayR_step s a k st nd x v r (by omega) hr2
          rw [h1] at h2
          simp at h2
          exact hwv h2

theorem ofF_nodup (s : Int) : (ofF p s).Nodup := by
  unfold ofF
  split
  · simp
  · split
    · simp
    · rename_i sg _ _ y _
      have := onF_nodup (p := p) s sg.at_.elem 13 [] [] y rfl
      simpa using this

end
end Go.E
/- Plain Lean: RoadOfs, RoadAlls, RoadIsOne, RoadTurned and RoadEach answer true, for every argument. No condition. -/
namespace Go.E
open Go

theorem mod_ok {a n : Int} (ha : 0 ≤ a) (hn : 0 < n) : ∃ r, modI a n = some r ∧ 0 ≤ r ∧ r < n := by
  unfold modI
  rw [if_neg (by omega)]
  exact ⟨_, rfl, Int.tmod_nonneg _ ha, by rw [Int.tmod_eq_emod_of_nonneg ha]; exact Int.emod_lt_of_pos _ hn⟩

theorem u8w {n : Int} (h : (Lit.int .u8 n).wf = true) : 0 ≤ n ∧ n ≤ 255 ∧ wi64 n = n := by
  have : 0 ≤ n ∧ n ≤ 255 := by simpa [Lit.wf, IntKind.min, IntKind.max, IntKind.signed, IntKind.bits] using h
  exact ⟨this.1, this.2, by rw [wi64_id] <;> omega⟩

section
variable {p : Plan} {n : Net}

theorem ofF_len (s : Int) : (ofF p s).length ≤ 2 ^ 13 := by
  unfold ofF
  split
  · simp
  · split
    · simp
    · exact onF_len p s 13 _ _ _ _

end

theorem RoadEach_true (p : Plan) (s : Int) (ks : (Lit.int .u8 s).wf = true) : g_L7_RoadEach p s = some true := by
  unfold g_L7_RoadEach
  simp only [known7, Option.bind_some, Bool.not_true, cond_false]
  obtain ⟨b, h1, h2⟩ := fine_total p
  simp only [h1, Option.bind_some]
  cases b with
  | false => rfl
  | true =>
    have hv := h2 rfl
    obtain ⟨o, h3, h4⟩ := made_total p
    obtain ⟨n, rfl, hn⟩ := h4 h1
    simp only [Bool.not_true, cond_false, h3, Option.bind_some, optM]
    by_cases l0 : p.signals.length = 0
    · have : ((p.signals.length : Int) == 0) = true := by rw [beq_iff_eq]; omega
      simp only [this, cond_true]
    · have d : ((p.signals.length : Int) == 0) = false := by rw [beq_eq_false_iff_ne]; omega
      obtain ⟨u1, u2, u3⟩ := u8w ks
      obtain ⟨k, k1, k2, k3⟩ := mod_ok (a := s) (n := (p.signals.length : Int)) u1 (by omega)
      simp only [d, cond_false, u3, k1, Option.bind_some, road_Of_eq hn]
      have hl := ofF_len (p := p) k
      have hnd := ofF_nodup (p := p) k
      obtain ⟨b, h5, rfl⟩ := loop_ix (l := ofF p k) (step := g_L7_RoadEach_l1 n k (ofF p k)) (Post := fun b => b = true) (fun _ _ => True)
        (fun _ => ⟨true, by simp only [g_L7_RoadEach_l1, dge, cond_false], rfl⟩)
        (fun i r hr _ => by
          have hi := ilt hr
          have hmem := List.mem_of_getElem? hr
          obtain ⟨r1, r2, r3, r4, r5, r6, r7, r8, r9⟩ := ofF_road hmem
          refine .inr ⟨?_, trivial⟩
          have e0 : wi64 (wi64 (((([] : List Need).length : Int)) + (([] : List Int).length : Int)) + (([] : List Int).length : Int)) = 0 := by decide
          simp only [g_L7_RoadEach_l1, dlt hr, cond_true, idx_nat, hr, Option.bind_some, cbne, if_pos r2, road_Is_eq hn r (show r.needs.length ≤ 1000 by omega), r1, Bool.not_true, cond_false, r6, r3, r4, r5, e0, show decide ((0 : Int) < 0) = false by decide]
          have key : ∀ (m j : Nat), m + j = i → loopR (g_L7_RoadEach_l2 (ofF p k) (i : Int)) (j : Int) = some (.inl ((i + 1 : Nat) : Int)) := by
            intro m
            induction m with
            | zero =>
              intro j hj
              refine loopR_inr ?_
              have : decide ((j : Int) < (i : Int)) = false := by simp; omega
              simp only [g_L7_RoadEach_l2, this, cond_false, wi64_succ (show i < 1000000000 by omega)]
            | succ m ih =>
              intro j hj
              have dj : decide ((j : Int) < (i : Int)) = true := by simp; omega
              have hj2 : (ofF p k)[j]? = some ((ofF p k)[j]'(by omega)) := List.getElem?_eq_getElem _
              have hne : r ≠ (ofF p k)[j]'(by omega) := by
                intro h
                have h6 := List.pairwise_iff_getElem.1 hnd j i (by omega) hi (by omega)
                rw [List.getElem?_eq_getElem hi] at hr
                exact h6 (h.symm.trans (Option.some.inj hr).symm)
              rw [loopR_inl (s' := ((j + 1 : Nat) : Int)) (by
                simp only [g_L7_RoadEach_l2, dj, cond_true, idx_nat, hr, hj2, Option.bind_some, Same_eq (ofF_light hmem), decide_eq_false hne, cond_false, wi64_succ (show j < 1000000000 by omega)])]
              exact ih (j + 1) (by omega)
          have := key i 0 (by omega)
          rw [show ((0 : Nat) : Int) = 0 from rfl] at this
          exact this)
      exact h5

end Go.E
