/- Plain Lean: what a net says is what the plan says. No condition. -/
import Derived.KernelRfl
import Derived.Test.YtdppdkjoaanpnaaGreatJ5
set_option linter.unusedVariables false
set_option linter.unusedSimpArgs false
namespace Go.E
open Go

section
variable {p : Plan} {n : Net}
theorem net_elem (h : NetOf p n) (e : Int) : g_net_Net_elem n e = some ((idx p.elems e).getD ⟨ByteArray.empty, 0, 0⟩) := by
  unfold g_net_Net_elem
  rw [h.plan]
  by_cases h1 : e < 0
  · simp [h1, idx_none (.inl h1)]
  · by_cases h2 : (p.elems.length : Int) ≤ e
    · simp [h1, h2, idx_none (.inr h2)]
    · obtain ⟨a, ha⟩ := idx_of (l := p.elems) (n := e) (by omega) (by omega)
      simp [h1, h2, ha]

theorem net_Kind (h : NetOf p n) (e : Int) : g_net_Net_Kind n e = some (kindP p e) := by
  unfold g_net_Net_Kind kindP
  rw [net_elem h]
  cases idx p.elems e <;> rfl

theorem net_Next (h : NetOf p n) (x : Port) : g_net_Net_Next n x = some ((nextP p x).getD ⟨0, 0⟩, (nextP p x).isSome) := by
  unfold g_net_Net_Next; rw [h.next]

theorem readsP_cases (p : Plan) (x : Port) : readsP p x = -1 ∨ (0 ≤ readsP p x ∧ readsP p x < p.signals.length) := by
  rcases readsF_spec x p.signals 0 with ⟨h, _⟩ | ⟨k, s, h1, _, h3, _⟩
  · exact .inl h
  · have := ilt h1
    right
    unfold readsP
    rw [h3]; omega

theorem net_Reads (h : NetOf p n) (x : Port) : g_net_Net_Reads n x = some (readsP p x) := by
  unfold g_net_Net_Reads
  rw [h.reads]
  rcases readsP_cases p x with h1 | ⟨h1, _⟩
  · rw [if_neg (by omega), h1]; rfl
  · rw [if_pos h1]; rfl

/-- The ways through an element. -/
def outsP (p : Plan) (e i : Int) : List Way :=
  if hasP p ⟨e, i⟩ then if kindP p e = 1 then [⟨1 - i, 0⟩] else if kindP p e = 3 then [⟨if i = 0 then 1 else if i = 1 then 0 else if i = 2 then 3 else 2, 0⟩] else if kindP p e = 2 then if i = 0 then [⟨1, 1⟩, ⟨2, 2⟩] else [⟨0, i⟩] else [] else []

theorem net_Outs (h : NetOf p n) (e i : Int) : g_net_Net_Outs n e i = some (outsP p e i) := by
  unfold g_net_Net_Outs outsP
  simp only [net_Kind h, Option.bind_some, g_plan_Ends_eq, cbeq]
  by_cases h0 : i < 0
  · have : hasP p ⟨e, i⟩ = false := by simp [hasP]; omega
    simp [h0, this]
  · by_cases h1 : endsF (kindP p e) ≤ i
    · have : hasP p ⟨e, i⟩ = false := by simp [hasP]; omega
      simp [h0, h1, this]
    · have hh : hasP p ⟨e, i⟩ = true := by simp [hasP]; omega
      obtain ⟨_, h2, h3⟩ := hasP_fin hh
      simp only at h2 h3
      simp only [h0, h1, decide_false, cond_false, Option.bind_some, hh, if_true]
      by_cases k1 : kindP p e = 1
      · simp only [if_pos k1, wi64_id (n := 1 - i) (by omega) (by omega)]
      · by_cases k3 : kindP p e = 3
        · simp only [if_neg k1, if_pos k3]
          have : i = 0 ∨ i = 1 ∨ i = 2 ∨ i = 3 := by omega
          rcases this with rfl | rfl | rfl | rfl <;> rfl
        · by_cases k2 : kindP p e = 2
          · simp only [if_neg k1, if_neg k3, if_pos k2]
            rw [k2] at h3
            have : i = 0 ∨ i = 1 ∨ i = 2 := by simp [endsF] at h3; omega
            rcases this with rfl | rfl | rfl <;> rfl
          · simp only [if_neg k1, if_neg k3, if_neg k2]

/-- The way that the points' position opens. -/
def throughL : List Way → Int → Option Int
  | [], _ => none
  | w :: r, x => if w.pos = 0 ∨ w.pos = x then some w.out else throughL r x

def throughP (p : Plan) (e i x : Int) : Option Int := throughL (outsP p e i) x

theorem outsP_len (p : Plan) (e i : Int) : (outsP p e i).length ≤ 2 := by
  unfold outsP
  repeat' split
  all_goals simp

theorem net_Through (h : NetOf p n) (e i x : Int) : g_net_Net_Through n e i x = some ((throughP p e i x).getD 0, (throughP p e i x).isSome) := by
  unfold g_net_Net_Through throughP
  rw [net_Outs h]
  simp only [Option.bind_some]
  have hl := outsP_len p e i
  refine loop_list (γ := Unit) (outsP p e i) (fun k _ => (k : Int)) (fun _ _ r => some ((throughL r x).getD 0, (throughL r x).isSome)) (fun _ => ?_) (fun k _ a r ha hi => ?_) ()
  · simp [g_net_Net_Through_l1, throughL]
  · simp only [g_net_Net_Through_l1, idx_nat, ha, Option.bind_some, dlt ha, cond_true, throughL, cbeq]
    by_cases h1 : a.pos = 0
    · left; simp [h1]
    · by_cases h2 : a.pos = x
      · left
        simp [h1, h2]
      · right
        have : (a.pos == x) = false := beq_eq_false_iff_ne.2 h2
        exact ⟨(), by simp [h1, this, wi64_succ (show k < 1000000000 by omega)], by simp [h1, h2]⟩

end
end Go.E
/- Plain Lean: sorted rows without repetition. No condition. -/
namespace Go.E
open Go

end Go.E
/- The known answers of layer 23, reckoned by the kernel. No condition. -/
namespace Go.E
open Go Go.Proofs
set_option maxRecDepth 100000
theorem known7 : g_L7_known = some true := by kernel_rfl

end Go.E
/- Plain Lean: RoadFinds answers true, for every argument. No condition. -/
namespace Go.E
open Go

/-! ### rows that are one -/
theorem eq_loop {α : Type} [DecidableEq α] {a b : List α} (hl : a.length = b.length) (hb : a.length < 1000000) {step : Int → Option (Int ⊕ Bool)}
    (h : ∀ i : Nat, i ≤ a.length → step (i : Int) = if h : i < a.length then (if a[i] = b[i]'(by omega) then some (.inl ((i + 1 : Nat) : Int)) else some (.inr false)) else some (.inr true)) : loopR step 0 = some (decide (a = b)) := by
  by_cases hab : a = b
  · subst hab
    obtain ⟨r, h1, h2⟩ := loop_ix (l := a) (step := step) (Post := fun r => r = true) (fun _ _ => True) (fun _ => ⟨true, by rw [h _ (Nat.le_refl _)]; simp, rfl⟩)
      (fun i x hx _ => .inr ⟨by have := ilt hx; rw [h _ (by omega), dif_pos this, if_pos rfl], trivial⟩)
    rw [h1, h2]; simp
  · obtain ⟨r, h1, h2⟩ := loop_ix (l := a) (step := step) (Post := fun r => r = false) (fun i x => b[i]? = some x) (fun good => by
        exfalso; refine hab (List.ext_getElem hl fun i h1 h2 => ?_)
        have := good i _ (List.getElem?_eq_getElem h1)
        rw [List.getElem?_eq_getElem h2] at this
        exact (Option.some.inj this).symm)
      (fun i x hx _ => by
        have hi := ilt hx
        have hx' : a[i] = x := Option.some.inj ((List.getElem?_eq_getElem hi).symm.trans hx)
        rw [h _ (by omega), dif_pos hi]
        by_cases e : a[i] = b[i]'(by omega)
        · exact .inr ⟨by rw [if_pos e], by rw [List.getElem?_eq_getElem (by omega), ← e, hx']⟩
        · exact .inl ⟨false, by rw [if_neg e], rfl⟩)
    rw [h1, h2]; simp [hab]

theorem eq_step {α : Type} [DecidableEq α] {a b : List α} (hl : a.length = b.length) (hb : a.length < 1000000) (i : Nat) (hi : i ≤ a.length) :
    (bif decide ((i : Int) < (a.length : Int)) then (idx a i).bind fun y => (idx b i).bind fun z => bif (!(y == z)) then some (.inr false) else some (.inl (wi64 ((i : Int) + 1))) else some (.inr true) : Option (Int ⊕ Bool)) =
      if h : i < a.length then (if a[i] = b[i]'(by omega) then some (.inl ((i + 1 : Nat) : Int)) else some (.inr false)) else some (.inr true) := by
  by_cases h : i < a.length
  · have d : decide ((i : Int) < (a.length : Int)) = true := by simpa using h
    have h2 : b[i]? = some (b[i]'(by omega)) := List.getElem?_eq_getElem _
    simp only [d, cond_true, idx_nat, List.getElem?_eq_getElem h, h2, Option.bind_some, dif_pos h, wi64_succ (show i < 1000000000 by omega)]
    by_cases e : a[i] = b[i]'(by omega)
    · simp [e]
    · have : (a[i] == b[i]'(by omega)) = false := beq_eq_false_iff_ne.2 e
      simp only [this, Bool.not_false, cond_true, if_neg e]
  · have d : decide ((i : Int) < (a.length : Int)) = false := by simp; omega
    simp only [d, cond_false, dif_neg h]

theorem len_ne {α : Type} [DecidableEq α] {a b : List α} (h : a.length ≠ b.length) : decide (a = b) = false := by
  simp only [decide_eq_false_iff_not]; intro e; exact h (by rw [e])

theorem eqInts2 (a b : List Int) (hb : a.length < 1000000) : g_R6_SameInts a b = some (decide (a = b)) := by
  unfold g_R6_SameInts
  rw [cbne]
  split
  · exact eq_loop (by omega) hb fun i hi => by unfold g_R6_SameInts_l1; exact eq_step (by omega) hb i hi
  · rw [len_ne (by omega)]

/-- Roads that are looked at. -/
structure LightR (r : Road) : Prop where
  steps : r.steps.length ≤ 1000
  needs : r.needs.length ≤ 1000
  guards : r.guards.length ≤ 1000
  zone : r.zone.length ≤ 1000
  holds : r.holds.length ≤ 1000

/-! ### find, elements, onto -/
theorem map_loop {r : Road} (hl : r.steps.length < 1000000) {step : Int × List Int → Option ((Int × List Int) ⊕ List Int)}
    (h : ∀ (i : Int) (o : List Int), step (i, o) = bif decide (i < (r.steps.length : Int)) then (idx r.steps i).bind fun y => (appI o [y.elem]).bind fun z => some (.inl (wi64 (i + 1), z)) else some (.inr o)) : loopR step (0, []) = some (r.steps.map (·.elem)) := by
  obtain ⟨b, h1, h2⟩ := loop_st (l := r.steps) (step := step) (Post := fun b => b = r.steps.map (·.elem)) (fun i o => o = (r.steps.take i).map (·.elem)) (c := [])
    (fun c hc => ⟨c, by rw [h]; simp [dge], by rw [hc, List.take_length]⟩)
    (fun i a c ha hc => by
      have := ilt ha
      have hlen : c.length ≤ i := by rw [hc]; simp; omega
      refine .inr ⟨c ++ [a.elem], ?_, by rw [hc, take_map_succ ha]⟩
      rw [h]
      simp only [dlt ha, cond_true, idx_nat, ha, Option.bind_some]
      rw [appI_ok (by simp; omega)]
      simp only [Option.bind_some, wi64_succ (show i < 1000000000 by omega)])
    (by simp)
  rw [h1, h2]

theorem Elems_eq (r : Road) (hl : r.steps.length < 1000000) : g_road_Elems r = some (r.steps.map (·.elem)) := map_loop hl fun _ _ => rfl

end Go.E
/- Plain Lean: the roads of a signal: the document's search and the program's are one. No condition. -/
namespace Go.E
open Go

def mkR (s to fin : Int) (st : List Step) (nd : List Need) : Road := ⟨s, to, fin, st, nd, [], [], [], false⟩

def addN (nd : List Need) (e pos : Int) : List Need := if pos = 0 then nd else nd ++ [⟨e, pos⟩]

/-- The roads that go on from the steps st into x. -/
def onF (p : Plan) (s : Int) : Nat → List Step → List Need → Port → List Int → List Road
  | 0, _, _, _, _ => []
  | k + 1, st, nd, x, met => if x.elem ∈ met ∨ st.length = 12 then [] else if kindP p x.elem = 4 then [mkR s (-1) 2 (st ++ [⟨x.elem, x.fin, -1⟩]) nd] else
    (outsP p x.elem x.fin).flatMap fun w => if 0 ≤ readsP p ⟨x.elem, w.out⟩ then [mkR s (readsP p ⟨x.elem, w.out⟩) 1 (st ++ [⟨x.elem, x.fin, w.out⟩]) (addN nd x.elem w.pos)] else match nextP p ⟨x.elem, w.out⟩ with
      | none => [mkR s (-1) 3 (st ++ [⟨x.elem, x.fin, w.out⟩]) (addN nd x.elem w.pos)]
      | some y => onF p s k (st ++ [⟨x.elem, x.fin, w.out⟩]) (addN nd x.elem w.pos) y (met ++ [x.elem])

/-- What one way gives. -/
def wayR (p : Plan) (s : Int) (k : Nat) (st : List Step) (nd : List Need) (x : Port) (met : List Int) (w : Way) : List Road :=
  if 0 ≤ readsP p ⟨x.elem, w.out⟩ then [mkR s (readsP p ⟨x.elem, w.out⟩) 1 (st ++ [⟨x.elem, x.fin, w.out⟩]) (addN nd x.elem w.pos)] else match nextP p ⟨x.elem, w.out⟩ with
    | none => [mkR s (-1) 3 (st ++ [⟨x.elem, x.fin, w.out⟩]) (addN nd x.elem w.pos)]
    | some y => onF p s k (st ++ [⟨x.elem, x.fin, w.out⟩]) (addN nd x.elem w.pos) y (met ++ [x.elem])

theorem onF_succ (p : Plan) (s : Int) (k : Nat) (st : List Step) (nd : List Need) (x : Port) (met : List Int) :
    onF p s (k + 1) st nd x met = if x.elem ∈ met ∨ st.length = 12 then [] else if kindP p x.elem = 4 then [mkR s (-1) 2 (st ++ [⟨x.elem, x.fin, -1⟩]) nd] else (outsP p x.elem x.fin).flatMap (wayR p s k st nd x met) := rfl

theorem wayR_len (p : Plan) (s : Int) (k : Nat) (st : List Step) (nd : List Need) (x : Port) (met : List Int) (w : Way) (ih : ∀ st nd x met, (onF p s k st nd x met).length ≤ 2 ^ k) : (wayR p s k st nd x met w).length ≤ 2 ^ k := by
  have h1 : 1 ≤ 2 ^ k := Nat.one_le_two_pow
  unfold wayR
  split
  · simp; omega
  · split
    · simp; omega
    · exact ih _ _ _ _

theorem flat_lenB {α β : Type} (f : α → List β) (b : Nat) : ∀ l : List α, (∀ a ∈ l, (f a).length ≤ b) → (l.flatMap f).length ≤ l.length * b
  | [], _ => by simp
  | a :: l, h => by
    have h1 := h a (by simp)
    have h2 := flat_lenB f b l fun x hx => h x (by simp [hx])
    simp only [List.flatMap_cons, List.length_append, List.length_cons, Nat.add_mul]
    omega

theorem onF_len (p : Plan) (s : Int) : ∀ (k : Nat) (st : List Step) (nd : List Need) (x : Port) (met : List Int), (onF p s k st nd x met).length ≤ 2 ^ k
  | 0, _, _, _, _ => by simp [onF]
  | k + 1, st, nd, x, met => by
    have h1 : 1 ≤ 2 ^ (k + 1) := Nat.one_le_two_pow
    rw [onF_succ]
    split
    · simp
    · split
      · simp; omega
      · have h2 := flat_lenB (wayR p s k st nd x met) (2 ^ k) (outsP p x.elem x.fin) fun w _ => wayR_len p s k st nd x met w (onF_len p s k)
        have h3 := outsP_len p x.elem x.fin
        have h4 : (outsP p x.elem x.fin).length * 2 ^ k ≤ 2 * 2 ^ k := Nat.mul_le_mul_right _ h3
        rw [Nat.pow_succ]; omega

/-! ### the document's search -/
theorem In_eq (l : List Int) (hl : l.length < 1000000) (x : Int) : g_R6_In l x = some (decide (x ∈ l)) := by
  unfold g_R6_In
  obtain ⟨b, h1, h2⟩ := loop_ix (l := l) (step := g_R6_In_l1 l x) (Post := fun b => b = decide (x ∈ l)) (fun _ y => y ≠ x) (fun good => ⟨false, by simp [g_R6_In_l1], by
      symm; rw [decide_eq_false_iff_not]; intro hm
      obtain ⟨i, hi⟩ := List.getElem?_of_mem hm
      exact good i x hi rfl⟩) (fun i a ha _ => by
      have := ilt ha
      by_cases e : a = x
      · exact .inl ⟨true, by simp only [g_R6_In_l1, dlt ha, cond_true, idx_nat, ha, Option.bind_some, e, beq_self_eq_true], by symm; rw [decide_eq_true_iff]; subst e; exact List.mem_of_getElem? ha⟩
      · have : (a == x) = false := beq_eq_false_iff_ne.2 e
        exact .inr ⟨by simp only [g_R6_In_l1, dlt ha, cond_true, idx_nat, ha, Option.bind_some, this, cond_false, wi64_succ (show i < 1000000000 by omega)], e⟩)
  rw [h1, h2]

theorem addN_len (nd : List Need) (e pos : Int) : (addN nd e pos).length ≤ nd.length + 1 := by
  unfold addN; split <;> simp

/-- The roads of a signal. -/
def ofF (p : Plan) (s : Int) : List Road := match idx p.signals s with
  | none => []
  | some a => match nextP p a.at_ with
    | none => []
    | some y => onF p s 13 [] [] y [a.at_.elem]

theorem At_eq (p : Plan) (s : Int) : g_R6_At p s = some (match idx p.signals s with | none => (⟨0, 0⟩, false) | some a => (a.at_, true)) := by
  unfold g_R6_At
  by_cases h1 : s < 0
  · simp [h1, idx_none (.inl h1)]
  · by_cases h2 : (p.signals.length : Int) ≤ s
    · simp [h1, h2, idx_none (.inr h2)]
    · obtain ⟨a, ha⟩ := idx_of (l := p.signals) (n := s) (by omega) (by omega)
      simp [h1, h2, ha]

end Go.E
/- Plain Lean: the program's search for roads gives what the document's does. No condition. -/
namespace Go.E
open Go

/-- The points among the steps, as they are to lie. -/
def needsL : List Step → List Int → List Need
  | s :: st, q :: ps => if q = 0 then needsL st ps else ⟨s.elem, q⟩ :: needsL st ps
  | _, _ => []

theorem needsL_snoc : ∀ (st : List Step) (ps : List Int) (s : Step) (q : Int), st.length = ps.length → needsL (st ++ [s]) (ps ++ [q]) = addN (needsL st ps) s.elem q
  | [], [], s, q, _ => by simp [needsL, addN]
  | [], _ :: _, _, _, h => by simp at h
  | _ :: _, [], _, _, h => by simp at h
  | a :: st, b :: ps, s, q, h => by
    simp only [List.cons_append, needsL]
    rw [needsL_snoc st ps s q (by simpa using h)]
    unfold addN
    split <;> split <;> simp

theorem needsL_len : ∀ (st : List Step) (ps : List Int), (needsL st ps).length ≤ st.length
  | [], ps => by simp [needsL]
  | _ :: _, [] => by simp [needsL]
  | a :: st, b :: ps => by
    have := needsL_len st ps
    unfold needsL
    split
    · simp; omega
    · simp; omega

theorem needs_loop {st : List Step} {ps : List Int} (hl : st.length = ps.length) (hb : st.length < 1000) {β : Type} {step : Int × List Need → Option ((Int × List Need) ⊕ (β × List Need))} {c : β}
    (h : ∀ (i : Int) (o : List Need), step (i, o) = bif decide (i < (st.length : Int)) then (((idx st i).bind fun y => (idx ps i).bind fun z => bif (z != 0) then (idx ps i).bind fun z2 => (appI o [(⟨y.elem, z2⟩ : Need)]).bind fun w => some w else some o : Option ((List Need)))).bind fun (t : (List Need)) => some (.inl (wi64 (i + 1), t)) else some (.inr (c, o))) :
    loopR step (0, []) = some (c, needsL st ps) := by
  obtain ⟨b, h1, h2⟩ := loop_st (l := st) (step := step) (Post := fun b => b = (c, needsL st ps)) (fun i o => o = needsL (st.take i) (ps.take i)) (c := [])
    (fun o ho => ⟨(c, o), by rw [h]; simp, by rw [ho, List.take_length, hl, List.take_length]⟩)
    (fun i a o ha ho => by
      have hi := ilt ha
      have hz : ps[i]? = some (ps[i]'(by omega)) := List.getElem?_eq_getElem _
      have hol : o.length ≤ 1000 := by
        have := needsL_len (st.take i) (ps.take i)
        rw [ho]; rw [List.length_take] at this; omega
      have ht : needsL (st.take (i + 1)) (ps.take (i + 1)) = addN o a.elem (ps[i]'(by omega)) := by
        rw [List.take_add_one, List.take_add_one, ha, hz, ho]
        exact needsL_snoc _ _ _ _ (by simp; omega)
      refine .inr ⟨addN o a.elem (ps[i]'(by omega)), ?_, ht.symm⟩
      rw [h]
      simp only [dlt ha, cond_true, idx_nat, ha, hz, Option.bind_some, cbne]
      unfold addN
      by_cases e : ps[i]'(by omega) = 0
      · simp only [if_pos e, Option.bind_some, wi64_succ (show i < 1000000000 by omega)]
      · simp only [if_neg e]
        rw [appI_ok (by simp; omega)]
        simp only [Option.bind_some, wi64_succ (show i < 1000000000 by omega)])
    (by simp [needsL])
  rw [h1, h2]

section
variable {p : Plan} {n : Net}

theorem net_At_eq (hn : NetOf p n) (s : Int) : g_net_Net_At n s = some (match idx p.signals s with | none => (⟨0, 0⟩, false) | some a => (a.at_, true)) := by
  have := At_eq p s
  unfold g_R6_At at this
  unfold g_net_Net_At
  rw [hn.plan]; exact this

theorem may_eq (b : Int) (st : List Step) (ps : List Int) (lf : List (List Way)) (e : Int) (hl : st.length ≤ 1000) : g_road_path_may ⟨b, st, ps, lf⟩ e = some (decide (st.length < 12 ∧ e ≠ b ∧ e ∉ st.map (·.elem))) := by
  have key : g_slices_ContainsFunc_apiStep_c83 st e = some (decide (e ∈ st.map (·.elem))) := by
    unfold g_slices_ContainsFunc_apiStep_c83
    obtain ⟨t, h1, h2⟩ := loop_ix (l := st) (step := g_slices_ContainsFunc_apiStep_c83_l1 st e) (Post := fun t => decide (0 ≤ t) = decide (e ∈ st.map (·.elem))) (fun _ s => s.elem ≠ e)
      (fun good => ⟨-1, by simp [g_slices_ContainsFunc_apiStep_c83_l1], by
        rw [show decide ((0 : Int) ≤ -1) = false by decide]
        symm; rw [decide_eq_false_iff_not]; intro hm
        obtain ⟨s, hs, he⟩ := List.mem_map.1 hm
        obtain ⟨i, hi⟩ := List.getElem?_of_mem hs
        exact good i s hi he⟩)
      (fun i s hs _ => by
        have := ilt hs
        by_cases c : s.elem = e
        · refine .inl ⟨(i : Int), by simp only [g_slices_ContainsFunc_apiStep_c83_l1, g_road_path_may_1, dlt hs, cond_true, idx_nat, hs, Option.bind_some, c, beq_self_eq_true], ?_⟩
          rw [show decide ((0 : Int) ≤ (i : Int)) = true by simp]
          symm; rw [decide_eq_true_iff]; exact List.mem_map.2 ⟨s, List.mem_of_getElem? hs, c⟩
        · have cb : (s.elem == e) = false := beq_eq_false_iff_ne.2 c
          exact .inr ⟨by simp only [g_slices_ContainsFunc_apiStep_c83_l1, g_road_path_may_1, dlt hs, cond_true, idx_nat, hs, Option.bind_some, cb, cond_false, wi64_succ (show i < 1000000000 by omega)], c⟩)
    rw [h1]; simp only [Option.bind_some, h2]
  unfold g_road_path_may
  rw [key]
  by_cases h1 : st.length < 12
  · by_cases h2 : e = b
    · have : decide ((st.length : Int) < 12) = true := by simp; omega
      simp [this, h2]
    · have d1 : decide ((st.length : Int) < 12) = true := by simp; omega
      have d2 : (e != b) = true := bne_iff_ne.2 h2
      simp only [d1, d2, cond_true, Option.bind_some, h1, h2, ne_eq, not_false_eq_true, true_and, decide_not]
  · have : decide ((st.length : Int) < 12) = false := by simp; omega
    simp [this, h1]

theorem Clone_steps (l : List Step) (h : l.length ≤ 1000000) : g_slices_Clone_apiStep l = some l := clone_eq l h

/-! ### the program's search: what comes of a state -/
/-- From the inner loop on. -/
noncomputable def innC (n : Net) (s : Int) (a : Port) (b : Bool) (o : List Road) (st : List Step) (ps : List Int) (lf : List (List Way)) : Option (List Road) :=
  (loopR (g_road_Of_l3 n s) (o, st, ps, lf)).bind fun r => match r with
    | .inl s' => loopR (g_road_Of_l1 n s (a, b)) s'
    | .inr x => some x

theorem out_eq (s : Int) (a : Port) (b : Bool) (x : Port) (o : List Road) (st : List Step) (ps : List Int) (lf : List (List Way)) {o' : List Road} {st' : List Step} {ps' : List Int} {lf' : List (List Way)}
    (h : g_road_Of_l1 n s (a, b) (x.elem, x.fin, o, st, ps, lf) = loopR (g_road_Of_l3 n s) (o', st', ps', lf')) : loopR (g_road_Of_l1 n s (a, b)) (x.elem, x.fin, o, st, ps, lf) = innC n s a b o' st' ps' lf' := by
  rw [loopR_eq, h]
  unfold innC
  cases loopR (g_road_Of_l3 n s) (o', st', ps', lf') with
  | none => rfl
  | some r => cases r <;> rfl

theorem inn_step {s : Int} {a : Port} {b : Bool} {o o' : List Road} {st st' : List Step} {ps ps' : List Int} {lf lf' : List (List Way)} (h : g_road_Of_l3 n s (o, st, ps, lf) = some (.inl (o', st', ps', lf'))) : innC n s a b o st ps lf = innC n s a b o' st' ps' lf' := by
  unfold innC
  rw [loopR_inl h]

theorem inn_go {s : Int} {a : Port} {b : Bool} {o : List Road} {st : List Step} {ps : List Int} {lf : List (List Way)} {x : Port} {o' : List Road} {st' : List Step} {ps' : List Int} {lf' : List (List Way)} (h : g_road_Of_l3 n s (o, st, ps, lf) = some (.inr (.inl (x.elem, x.fin, o', st', ps', lf')))) :
    innC n s a b o st ps lf = loopR (g_road_Of_l1 n s (a, b)) (x.elem, x.fin, o', st', ps', lf') := by
  unfold innC
  rw [loopR_inr h]; rfl

theorem wl_snoc {α : Type} (l : List α) (x : α) (hl : l.length < 1000000) : wi64 (((l ++ [x]).length : Int) - 1) = (l.length : Int) := by
  have : (((l ++ [x]).length : Int) - 1) = (l.length : Int) := by simp
  rw [this, wi64_id] <;> omega

theorem idx_sn {α : Type} {l : List α} {m : Nat} (x : α) (h : l.length = m) : idx (l ++ [x]) (m : Int) = some x := by
  rw [idx_nat]; subst h; simp

theorem slO_nil {α : Type} {l : List α} (h : l ≠ []) (a b : Int) : slO l a b = slI l a b := by
  cases l with
  | nil => exact absurd rfl h
  | cons x l => rfl

theorem slO_at {α : Type} {l : List α} {m : Nat} (x : α) (h : l.length = m) : slO (l ++ [x]) 0 (m : Int) = some l := by
  subst h
  rw [slO_nil (by simp)]
  unfold slI
  rw [if_pos ⟨by omega, by omega, by simp; omega⟩]; simp

theorem setI_at {α : Type} {l : List α} {m : Nat} (x y : α) (h : l.length = m) : setI (l ++ [x]) (m : Int) y = l ++ [y] := by
  subst h
  unfold setI
  simp

theorem inn_end (s : Int) (o : List Road) : g_road_Of_l3 n s (o, [], [], []) = some (.inr (.inr o)) := rfl

theorem inn_pop (s : Int) (o : List Road) (st : List Step) (ps : List Int) (lf : List (List Way)) (sp : Step) (q : Int) (hl : st.length < 1000) (hp : ps.length = st.length) (hf : lf.length = st.length) :
    g_road_Of_l3 n s (o, st ++ [sp], ps ++ [q], lf ++ [[]]) = some (.inl (o, st, ps, lf)) := by
  have d : decide ((0 : Int) < ((st ++ [sp]).length : Int)) = true := by simp
  unfold g_road_Of_l3
  simp only [d, cond_true, wl_snoc st sp (by omega), idx_sn _ hf, Option.bind_some, List.length_nil, slO_at _ rfl, slO_at _ hp, slO_at _ hf]
  rfl

theorem inn_way (hn : NetOf p n) (s : Int) (o : List Road) (st : List Step) (ps : List Int) (lf : List (List Way)) (sp : Step) (q : Int) (w : Way) (ws : List Way) (hl : st.length < 900) (hp : ps.length = st.length) (hf : lf.length = st.length) (ho : o.length < 1000000) :
    g_road_Of_l3 n s (o, st ++ [sp], ps ++ [q], lf ++ [w :: ws]) =
      if 0 ≤ readsP p ⟨sp.elem, w.out⟩ then some (.inl (o ++ [mkR s (readsP p ⟨sp.elem, w.out⟩) 1 (st ++ [⟨sp.elem, sp.in_, w.out⟩]) (needsL (st ++ [⟨sp.elem, sp.in_, w.out⟩]) (ps ++ [w.pos]))], st ++ [⟨sp.elem, sp.in_, w.out⟩], ps ++ [w.pos], lf ++ [ws])) else match nextP p ⟨sp.elem, w.out⟩ with
        | none => some (.inl (o ++ [mkR s (-1) 3 (st ++ [⟨sp.elem, sp.in_, w.out⟩]) (needsL (st ++ [⟨sp.elem, sp.in_, w.out⟩]) (ps ++ [w.pos]))], st ++ [⟨sp.elem, sp.in_, w.out⟩], ps ++ [w.pos], lf ++ [ws]))
        | some y => some (.inr (.inl (y.elem, y.fin, o, st ++ [⟨sp.elem, sp.in_, w.out⟩], ps ++ [w.pos], lf ++ [ws]))) := by
  have d : decide ((0 : Int) < ((st ++ [sp]).length : Int)) = true := by simp
  have d2 : (((w :: ws).length : Int) == 0) = false := by rw [beq_eq_false_iff_ne]; simp; omega
  have d3 : idx (w :: ws) 0 = some w := rfl
  have d4 : slI (w :: ws) 1 ((w :: ws).length : Int) = some ws := by
    unfold slI
    rw [if_pos ⟨by omega, by simp; omega, by simp⟩]; simp
  unfold g_road_Of_l3
  simp only [d, cond_true, wl_snoc st sp (by omega), idx_sn _ hf, idx_sn _ hp, idx_sn _ (rfl : st.length = st.length), Option.bind_some, d2, cond_false, d3, d4, setI_at _ _ hf, setI_at _ _ hp, setI_at _ _ (rfl : st.length = st.length), net_Reads hn, net_Next hn]
  have hst : (st ++ [(⟨sp.elem, sp.in_, w.out⟩ : Step)]).length ≤ 1000000 := by simp; omega
  have hls : ∀ (t : Step), (st ++ [(⟨sp.elem, sp.in_, w.out⟩ : Step)]).length = (ps ++ [w.pos]).length := fun _ => by simp [hp]
  have ha : ∀ r : Road, o.length + [r].length ≤ 4294967296 := fun r => by simp; omega
  by_cases hr : 0 ≤ readsP p ⟨sp.elem, w.out⟩
  · rw [if_pos hr]
    simp only [hr, decide_true, cond_true, Clone_steps _ hst, Option.bind_some]
    rw [needs_loop (c := st ++ [⟨sp.elem, sp.in_, w.out⟩]) (hls sp) (by simp; omega) (fun i o => by unfold g_road_Of_l4; simp only [wl_snoc st sp (by omega), setI_at _ _ hp, setI_at _ _ (rfl : st.length = st.length)])]
    simp only [Option.bind_some, appI_ok (ha _)]
    rfl
  · rw [if_neg hr]
    simp only [hr, decide_false, cond_false]
    cases hnx : nextP p ⟨sp.elem, w.out⟩ with
    | none =>
      simp only [Option.isSome_none, Bool.not_false, cond_true, Clone_steps _ hst, Option.bind_some]
      rw [needs_loop (c := st ++ [⟨sp.elem, sp.in_, w.out⟩]) (hls sp) (by simp; omega) (fun i o => by unfold g_road_Of_l5; simp only [wl_snoc st sp (by omega), setI_at _ _ hp, setI_at _ _ (rfl : st.length = st.length)])]
      simp only [Option.bind_some, appI_ok (ha _)]
      rfl
    | some y =>
      simp only [Option.isSome_some, Option.getD_some, Bool.not_true, cond_false]

theorem outs_gate {e i : Int} (h : kindP p e = 4) : outsP p e i = [] := by
  unfold outsP
  rw [h]; simp

theorem may_step (hn : NetOf p n) (s : Int) (a : Port) (b : Bool) (x : Port) (o : List Road) (st : List Step) (ps : List Int) (lf : List (List Way)) (hl : st.length ≤ 13) (hp : ps.length = st.length) (hf : lf.length = st.length) (ho : o.length < 1000000) :
    loopR (g_road_Of_l1 n s (a, b)) (x.elem, x.fin, o, st, ps, lf) = if st.length < 12 ∧ x.elem ≠ a.elem ∧ x.elem ∉ st.map (·.elem) then
      innC n s a b (if kindP p x.elem = 4 then o ++ [mkR s (-1) 2 (st ++ [⟨x.elem, x.fin, -1⟩]) (needsL (st ++ [⟨x.elem, x.fin, -1⟩]) (ps ++ [0]))] else o) (st ++ [⟨x.elem, x.fin, -1⟩]) (ps ++ [0]) (lf ++ [outsP p x.elem x.fin]) else innC n s a b o st ps lf := by
  by_cases hm : st.length < 12 ∧ x.elem ≠ a.elem ∧ x.elem ∉ st.map (·.elem)
  · rw [if_pos hm]
    have ha : ∀ {α : Type} (l : List α) (x : α), l.length < 2000000 → l.length + [x].length ≤ 4294967296 := fun l x h => by simp; omega
    by_cases hk : kindP p x.elem = 4
    · rw [if_pos hk]
      refine out_eq s a b x o st ps lf ?_
      have hst : (st ++ [(⟨x.elem, x.fin, -1⟩ : Step)]).length ≤ 1000000 := by simp; omega
      unfold g_road_Of_l1
      simp only [may_eq a.elem st ps lf x.elem (by omega), Option.bind_some, decide_eq_true hm, cond_true, appI_ok (ha st ⟨x.elem, x.fin, -1⟩ (by omega)), appI_ok (ha ps 0 (by omega)), net_Outs hn, appI_ok (ha lf (outsP p x.elem x.fin) (by omega)), net_Kind hn, cbeq, if_pos hk, Clone_steps _ hst]
      rw [needs_loop (c := st ++ [⟨x.elem, x.fin, -1⟩]) (st := st ++ [⟨x.elem, x.fin, -1⟩]) (ps := ps ++ [0]) (by simp [hp]) (by simp; omega) (fun i o => by unfold g_road_Of_l2; rfl)]
      simp only [Option.bind_some, appI_ok (ha o _ (by omega))]
      rfl
    · rw [if_neg hk]
      refine out_eq s a b x o st ps lf ?_
      unfold g_road_Of_l1
      simp only [may_eq a.elem st ps lf x.elem (by omega), Option.bind_some, decide_eq_true hm, cond_true, appI_ok (ha st ⟨x.elem, x.fin, -1⟩ (by omega)), appI_ok (ha ps 0 (by omega)), net_Outs hn, appI_ok (ha lf (outsP p x.elem x.fin) (by omega)), net_Kind hn, cbeq, if_neg hk]
  · rw [if_neg hm]
    refine out_eq s a b x o st ps lf ?_
    unfold g_road_Of_l1
    simp only [may_eq a.elem st ps lf x.elem (by omega), Option.bind_some, decide_eq_false hm, cond_false]

/-- The program's search from an element on: the roads that go on from there, then back. -/
theorem outer (hn : NetOf p n) (s : Int) (a : Port) (b : Bool) : ∀ (k : Nat) (x : Port) (o : List Road) (st : List Step) (ps : List Int) (lf : List (List Way)), st.length + k = 13 → ps.length = st.length → lf.length = st.length → o.length + 2 ^ k ≤ 100000 →
    loopR (g_road_Of_l1 n s (a, b)) (x.elem, x.fin, o, st, ps, lf) = innC n s a b (o ++ onF p s k st (needsL st ps) x (a.elem :: st.map (·.elem))) st ps lf
  | 0, x, o, st, ps, lf, hk, hp, hf, ho => by
    rw [may_step hn s a b x o st ps lf (by omega) hp hf (by omega), if_neg (by omega)]
    simp [onF]
  | k + 1, x, o, st, ps, lf, hk, hp, hf, ho => by
    have hpow : 2 ^ k ≤ 2 ^ 12 := Nat.pow_le_pow_right (by decide) (by omega)
    rw [Nat.pow_succ] at ho
    rw [may_step hn s a b x o st ps lf (by omega) hp hf (by omega), onF_succ]
    by_cases hm : st.length < 12 ∧ x.elem ≠ a.elem ∧ x.elem ∉ st.map (·.elem)
    · have hm2 : ¬ (x.elem ∈ a.elem :: st.map (·.elem) ∨ st.length = 12) := by
        rintro (h | h)
        · rcases List.mem_cons.1 h with h | h
          · exact hm.2.1 h
          · exact hm.2.2 h
        · omega
      rw [if_pos hm, if_neg hm2]
      by_cases hk4 : kindP p x.elem = 4
      · rw [if_pos hk4, if_pos hk4, outs_gate hk4, inn_step (inn_pop s _ st ps lf _ 0 (by omega) hp hf), needsL_snoc _ _ _ _ hp.symm]
        rfl
      · rw [if_neg hk4, if_neg hk4]
        have inner : ∀ (ws : List Way) (o : List Road) (u q : Int), o.length + ws.length * 2 ^ k ≤ 100000 → innC n s a b o (st ++ [⟨x.elem, x.fin, u⟩]) (ps ++ [q]) (lf ++ [ws]) = innC n s a b (o ++ ws.flatMap (wayR p s k st (needsL st ps) x (a.elem :: st.map (·.elem)))) st ps lf := by
          intro ws
          induction ws with
          | nil =>
            intro o u q ho
            rw [inn_step (inn_pop s _ st ps lf _ q (by omega) hp hf)]
            simp
          | cons w ws ih =>
            intro o u q ho
            rw [List.length_cons, Nat.add_mul] at ho
            have hway := inn_way hn s o st ps lf ⟨x.elem, x.fin, u⟩ q w ws (by omega) hp hf (by omega)
            have h1 : 1 ≤ 2 ^ k := Nat.one_le_two_pow
            rw [List.flatMap_cons, ← List.append_assoc]
            simp only at hway
            by_cases hr : 0 ≤ readsP p ⟨x.elem, w.out⟩
            · rw [if_pos hr] at hway
              rw [inn_step hway, ih _ _ _ (by simp; omega)]
              unfold wayR
              rw [if_pos hr, needsL_snoc _ _ _ _ hp.symm]
            · rw [if_neg hr] at hway
              cases hnx : nextP p ⟨x.elem, w.out⟩ with
              | none =>
                rw [hnx] at hway
                rw [inn_step hway, ih _ _ _ (by simp; omega)]
                unfold wayR
                rw [if_neg hr, hnx, needsL_snoc _ _ _ _ hp.symm]
              | some y =>
                rw [hnx] at hway
                have hlen := onF_len p s k (st ++ [⟨x.elem, x.fin, w.out⟩]) (needsL (st ++ [⟨x.elem, x.fin, w.out⟩]) (ps ++ [w.pos])) y (a.elem :: (st ++ [(⟨x.elem, x.fin, w.out⟩ : Step)]).map (·.elem))
                rw [inn_go hway, outer hn s a b k y o _ _ _ (by simp; omega) (by simp [hp]) (by simp [hf]) (by omega), ih _ _ _ (by simp only [List.length_append]; omega)]
                unfold wayR
                rw [if_neg hr, hnx, needsL_snoc _ _ _ _ hp.symm]
                simp
        rw [inner _ _ _ _ (by have h3 := outsP_len p x.elem x.fin; have h4 : (outsP p x.elem x.fin).length * 2 ^ k ≤ 2 * 2 ^ k := Nat.mul_le_mul_right _ h3; omega)]
    · have hm2 : x.elem ∈ a.elem :: st.map (·.elem) ∨ st.length = 12 := by
        by_cases h1 : st.length = 12
        · exact .inr h1
        · left
          by_cases h2 : x.elem = a.elem
          · simp [h2]
          · by_cases h3 : x.elem ∈ st.map (·.elem)
            · exact List.mem_cons_of_mem _ h3
            · exact absurd ⟨by omega, h2, h3⟩ hm
      rw [if_neg hm, if_pos hm2]; simp

/-- The program's roads of a signal. -/
theorem road_Of_eq (hn : NetOf p n) (s : Int) : g_road_Of n s = some (ofF p s) := by
  unfold g_road_Of ofF
  rw [net_At_eq hn]
  cases idx p.signals s with
  | none => rfl
  | some a =>
    simp only [Option.bind_some, Bool.not_true, cond_false, net_Next hn]
    cases nextP p a.at_ with
    | none => rfl
    | some y =>
      simp only [Option.isSome_some, Option.getD_some, Bool.not_true, cond_false]
      rw [outer hn s a.at_ true 13 y [] [] [] [] rfl rfl rfl (by decide)]
      unfold innC
      rw [loopR_inr (inn_end s _)]
      rfl

end
end Go.E
/- Plain Lean: whether something is a road: the program's answer and the document's are one. No condition. -/
namespace Go.E
open Go

def wayF (l : List Way) (o : Int) : Option Way := l.find? fun w => w.out == o

/-- The needs of steps that follow from a port on, if they may follow. -/
def stepsF (p : Plan) (a : Int) : Option Port → List Step → List Need → List Step → Option (List Need)
  | _, _, nd, [] => some nd
  | none, _, _, _ :: _ => none
  | some x, pv, nd, s :: r => if s.elem ≠ x.elem ∨ s.in_ ≠ x.fin ∨ s.elem = a ∨ s.elem ∈ pv.map (·.elem) then none else if kindP p s.elem = 4 then (if r = [] ∧ s.out = -1 then some nd else none) else match wayF (outsP p s.elem s.in_) s.out with
    | none => none
    | some w => if r ≠ [] ∧ 0 ≤ readsP p ⟨s.elem, s.out⟩ then none else stepsF p a (nextP p ⟨s.elem, s.out⟩) (pv ++ [s]) (addN nd s.elem w.pos) r

def tailF (p : Plan) (fin to : Int) (l : Step) : Bool :=
  if kindP p l.elem = 4 then decide (fin = 2 ∧ to = -1) else if 0 ≤ readsP p ⟨l.elem, l.out⟩ then decide (fin = 1 ∧ to = readsP p ⟨l.elem, l.out⟩) else (nextP p ⟨l.elem, l.out⟩).isNone && decide (fin = 3 ∧ to = -1)

/-- Is it a road (but for its flank)? -/
def isF (p : Plan) (r : Road) : Bool := match idx p.signals r.frm with
  | none => false
  | some sg => if r.steps.length < 1 ∨ 12 < r.steps.length then false else match stepsF p sg.at_.elem (nextP p sg.at_) [] [] r.steps with
    | none => false
    | some nd => match r.steps.getLast? with
      | none => false
      | some l => tailF p r.fin r.to l && decide (r.needs = nd)

theorem stepsF_len {p : Plan} {a : Int} : ∀ {r : List Step} {x : Option Port} {pv : List Step} {nd nd' : List Need}, stepsF p a x pv nd r = some nd' → nd'.length ≤ nd.length + r.length
  | [], x, pv, nd, nd', h => by
    have : nd = nd' := by cases x <;> simpa [stepsF] using h
    subst this; simp
  | s :: r, none, pv, nd, nd', h => by simp [stepsF] at h
  | s :: r, some x, pv, nd, nd', h => by
    unfold stepsF at h
    split at h
    · cases h
    · split at h
      · split at h
        · cases h; simp
        · cases h
      · split at h
        · cases h
        · split at h
          · cases h
          · have h1 := stepsF_len h
            rename_i w _ _
            have h2 := addN_len nd s.elem w.pos
            simp only [List.length_cons]; omega

section
variable {p : Plan} {n : Net}

theorem take_slI {α : Type} (l : List α) (i : Nat) (h : i ≤ l.length) : slI l 0 (i : Int) = some (l.take i) := by
  unfold slI
  rw [if_pos ⟨by omega, by omega, by omega⟩]; simp

theorem last_idx {α : Type} (l : List α) (h : 1 ≤ l.length) (h2 : l.length < 1000000) : idx l (wi64 ((l.length : Int) - 1)) = l.getLast? := by
  have : wi64 ((l.length : Int) - 1) = ((l.length - 1 : Nat) : Int) := by rw [wi64_id] <;> omega
  rw [this, idx_nat, List.getLast?_eq_getElem?]

/-! ### the document's test -/
end
end Go.E
/- Plain Lean: whether something is a road, as the document says; the roads of a signal are roads, and none is told twice. No condition. -/
namespace Go.E
open Go

theorem outs_dist (p : Plan) (e i : Int) : (outsP p e i).Pairwise (fun a b => a.out ≠ b.out) := by
  unfold outsP
  repeat' split
  all_goals simp

theorem outs_fact {p : Plan} {e i : Int} {w : Way} (h : w ∈ outsP p e i) : 0 ≤ w.out ∧ w.out < endsF (kindP p e) ∧ 0 ≤ i ∧ i < endsF (kindP p e) ∧ kindP p e ≠ 4 ∧ (w.pos ≠ 0 → kindP p e = 2 ∧ (w.pos = 1 ∨ w.pos = 2)) := by
  unfold outsP at h
  cases hh : hasP p ⟨e, i⟩ with
  | false => rw [hh] at h; simp at h
  | true =>
    obtain ⟨h1, h2, h3⟩ := hasP_fin hh
    simp only at h1 h2 h3
    rw [hh] at h
    simp only [if_true] at h
    by_cases k1 : kindP p e = 1
    · rw [k1] at h h3 ⊢
      simp [endsF] at h h3 ⊢
      subst h
      simp; omega
    · by_cases k3 : kindP p e = 3
      · rw [k3] at h h3 ⊢
        simp [endsF] at h h3 ⊢
        subst h
        simp
        split
        · omega
        · split
          · omega
          · split <;> omega
      · by_cases k2 : kindP p e = 2
        · rw [k2] at h h3 ⊢
          simp [endsF] at h h3 ⊢
          by_cases i0 : i = 0
          · subst i0
            simp at h
            rcases h with rfl | rfl <;> simp
          · rw [if_neg i0] at h
            simp at h
            subst h
            simp; omega
        · rw [if_neg k1, if_neg k3, if_neg k2] at h; simp at h

theorem wayF_mem : ∀ {l : List Way} {w : Way}, l.Pairwise (fun a b => a.out ≠ b.out) → w ∈ l → wayF l w.out = some w
  | a :: l, w, hp, hm => by
    rw [List.pairwise_cons] at hp
    unfold wayF
    rw [List.find?_cons]
    rcases List.mem_cons.1 hm with rfl | hm
    · simp
    · have := hp.1 w hm
      have e : (a.out == w.out) = false := beq_eq_false_iff_ne.2 this
      simp only [e]
      exact wayF_mem hp.2 hm

section
variable {p : Plan} {n : Net}

/-! ### the roads of a signal are roads -/
/-- A road that goes on from steps. -/
structure OnR (p : Plan) (a s : Int) (x : Port) (st : List Step) (nd : List Need) (r : Road) (t : List Step) : Prop where
  frm : r.frm = s
  guards : r.guards = []
  zone : r.zone = []
  holds : r.holds = []
  bare : r.bare = false
  steps : r.steps = st ++ t
  ne : t ≠ []
  len : r.steps.length ≤ 12
  all : stepsF p a (some x) st nd t = some r.needs
  tail : ∀ l, t.getLast? = some l → tailF p r.fin r.to l = true

theorem onF_road (s a : Int) : ∀ (k : Nat) (st : List Step) (nd : List Need) (x : Port) (r : Road), st.length + k = 13 → r ∈ onF p s k st nd x (a :: st.map (·.elem)) → ∃ t, OnR p a s x st nd r t ∧ ∃ u t', t = u :: t' ∧ u.elem = x.elem ∧ u.in_ = x.fin
  | 0, st, nd, x, r, hk, hr => by simp [onF] at hr
  | k + 1, st, nd, x, r, hk, hr => by
    rw [onF_succ] at hr
    by_cases hm : x.elem ∈ a :: st.map (·.elem) ∨ st.length = 12
    · rw [if_pos hm] at hr; simp at hr
    · rw [if_neg hm] at hr
      have hm1 : x.elem ∉ a :: st.map (·.elem) := fun h => hm (.inl h)
      have hm2 : ¬ (x.elem ≠ x.elem ∨ x.fin ≠ x.fin ∨ x.elem = a ∨ x.elem ∈ st.map (·.elem)) := by
        rintro (h1 | h1 | h1 | h1)
        · exact h1 rfl
        · exact h1 rfl
        · exact hm1 (by rw [h1]; simp)
        · exact hm1 (List.mem_cons_of_mem _ h1)
      have hlen : st.length < 12 := by
        have : st.length ≠ 12 := fun h => hm (.inr h)
        omega
      by_cases k4 : kindP p x.elem = 4
      · rw [if_pos k4] at hr
        simp at hr
        subst hr
        refine ⟨[⟨x.elem, x.fin, -1⟩], ⟨rfl, rfl, rfl, rfl, rfl, rfl, by simp, by simp [mkR]; omega, ?_, ?_⟩, _, _, rfl, rfl, rfl⟩
        · simp only [stepsF, if_neg hm2, if_pos k4, mkR, true_and, if_true]
        · intro l hl
          simp at hl
          subst hl
          simp [tailF, k4, mkR]
      · rw [if_neg k4] at hr
        obtain ⟨w, hw, hr⟩ := List.mem_flatMap.1 hr
        have hway := wayF_mem (outs_dist p x.elem x.fin) hw
        unfold wayR at hr
        by_cases hrd : 0 ≤ readsP p ⟨x.elem, w.out⟩
        · rw [if_pos hrd] at hr
          simp at hr
          subst hr
          refine ⟨[⟨x.elem, x.fin, w.out⟩], ⟨rfl, rfl, rfl, rfl, rfl, rfl, by simp, by simp [mkR]; omega, ?_, ?_⟩, _, _, rfl, rfl, rfl⟩
          · unfold stepsF; rw [if_neg hm2, if_neg k4, hway]; simp [stepsF, mkR]
          · intro l hl
            simp at hl
            subst hl
            simp [tailF, k4, mkR, hrd]
        · rw [if_neg hrd] at hr
          cases hnx : nextP p ⟨x.elem, w.out⟩ with
          | none =>
            rw [hnx] at hr
            simp at hr
            subst hr
            refine ⟨[⟨x.elem, x.fin, w.out⟩], ⟨rfl, rfl, rfl, rfl, rfl, rfl, by simp, by simp [mkR]; omega, ?_, ?_⟩, _, _, rfl, rfl, rfl⟩
            · unfold stepsF; rw [if_neg hm2, if_neg k4, hway]; simp [stepsF, mkR]
            · intro l hl
              simp at hl
              subst hl
              simp [tailF, k4, mkR, hrd, hnx]
          | some y =>
            rw [hnx] at hr
            have hmm : a :: st.map (·.elem) ++ [x.elem] = a :: (st ++ [(⟨x.elem, x.fin, w.out⟩ : Step)]).map (·.elem) := by simp
            simp only at hr
            rw [hmm] at hr
            obtain ⟨t, ht, u, t', htu, -, -⟩ := onF_road s a k (st ++ [⟨x.elem, x.fin, w.out⟩]) (addN nd x.elem w.pos) y r (by simp; omega) hr
            refine ⟨⟨x.elem, x.fin, w.out⟩ :: t, ⟨ht.frm, ht.guards, ht.zone, ht.holds, ht.bare, by rw [ht.steps]; simp, by simp, ht.len, ?_, ?_⟩, _, _, rfl, rfl, rfl⟩
            · unfold stepsF
              rw [if_neg hm2, if_neg k4, hway]
              dsimp only
              rw [if_neg (fun h => hrd h.2), hnx]
              exact ht.all
            · intro l hl
              refine ht.tail l ?_
              rw [htu] at hl ⊢
              rwa [List.getLast?_cons_cons] at hl

theorem ofF_road {s : Int} {r : Road} (h : r ∈ ofF p s) : isF p r = true ∧ r.frm = s ∧ r.guards = [] ∧ r.zone = [] ∧ r.holds = [] ∧ r.bare = false ∧ r.steps.length ≤ 12 ∧ 1 ≤ r.steps.length ∧ r.needs.length ≤ 12 := by
  unfold ofF at h
  cases hi : idx p.signals s with
  | none => rw [hi] at h; simp at h
  | some sg =>
    rw [hi] at h
    simp only at h
    cases hx : nextP p sg.at_ with
    | none => rw [hx] at h; simp at h
    | some y =>
      rw [hx] at h
      simp only at h
      obtain ⟨t, ht, -⟩ := onF_road s sg.at_.elem 13 [] [] y r rfl (by simpa using h)
      have hst : r.steps = t := by rw [ht.steps]; rfl
      have hlen : 1 ≤ r.steps.length := by
        rw [hst]
        exact List.length_pos_iff.2 ht.ne
      have hl2 := ht.len
      have hnl := stepsF_len ht.all
      rw [← hst] at hnl
      simp only [List.length_nil] at hnl
      refine ⟨?_, ht.frm, ht.guards, ht.zone, ht.holds, ht.bare, ht.len, hlen, by omega⟩
      unfold isF
      rw [ht.frm, hi]
      simp only
      rw [if_neg (by omega), hx, hst, ht.all]
      obtain ⟨l, hl⟩ : ∃ l, t.getLast? = some l := by
        rw [List.getLast?_eq_getElem?]
        rw [hst] at hlen
        exact ⟨_, List.getElem?_eq_getElem (by omega)⟩
      simp only [hl, ht.tail l hl, decide_true, Bool.and_true]

theorem LightR_of {r : Road} (h1 : r.steps.length ≤ 12) (h2 : r.needs.length ≤ 12) (h3 : r.guards = []) (h4 : r.zone = []) (h5 : r.holds = []) : LightR r := ⟨by omega, by omega, by simp [h3], by simp [h4], by simp [h5]⟩

theorem ofF_light {s : Int} {r : Road} (h : r ∈ ofF p s) : LightR r := by
  obtain ⟨_, _, h3, h4, h5, _, h6, _, h7⟩ := ofF_road h
  exact LightR_of h6 h7 h3 h4 h5

/-! ### none is told twice -/
end
end Go.E
/- Plain Lean: RoadOfs, RoadAlls, RoadIsOne, RoadTurned and RoadEach answer true, for every argument. No condition. -/
namespace Go.E
open Go

theorem mod_ok {a n : Int} (ha : 0 ≤ a) (hn : 0 < n) : ∃ r, modI a n = some r ∧ 0 ≤ r ∧ r < n := by
  unfold modI
  rw [if_neg (by omega)]
  exact ⟨_, rfl, Int.tmod_nonneg _ ha, by rw [Int.tmod_eq_emod_of_nonneg ha]; exact Int.emod_lt_of_pos _ hn⟩

theorem u8w {n : Int} (h : (Lit.int .u8 n).wf = true) : 0 ≤ n ∧ n ≤ 255 ∧ wi64 n = n := by
  have : 0 ≤ n ∧ n ≤ 255 := by simpa [Lit.wf, IntKind.min, IntKind.max, IntKind.signed, IntKind.bits] using h
  exact ⟨this.1, this.2, by rw [wi64_id] <;> omega⟩

section
variable {p : Plan} {n : Net}

theorem ofF_len (s : Int) : (ofF p s).length ≤ 2 ^ 13 := by
  unfold ofF
  split
  · simp
  · split
    · simp
    · exact onF_len p s 13 _ _ _ _

end

end Go.E
/- Plain Lean: RoadRuns answers true, for every argument. No condition. -/
namespace Go.E
open Go

/-- The position of an element, as it is told. -/
def lieW (pos : List Int) (e : Int) : Int := (idx pos e).getD 0

theorem walk_lies_eq (pos : List Int) (e : Int) : g_walk_lies pos e = some (lieW pos e) := by
  unfold g_walk_lies lieW
  by_cases h1 : e < 0
  · simp [h1, idx_none (.inl h1)]
  · by_cases h2 : (pos.length : Int) ≤ e
    · simp [h1, h2, idx_none (.inr h2)]
    · obtain ⟨a, ha⟩ := idx_of (l := pos) (n := e) (by omega) (by omega)
      simp [h1, h2, ha]

/-- The next heading. -/
def stepW (p : Plan) (pos : List Int) (h : Port) : Port × Int := match nextP p h with
  | none => (⟨0, 0⟩, 3)
  | some x => if kindP p x.elem = 4 then (⟨0, 0⟩, 2) else match throughP p x.elem x.fin (lieW pos x.elem) with
    | none => (⟨0, 0⟩, 4)
    | some o => (⟨x.elem, o⟩, 0)

def runW (p : Plan) (pos : List Int) : Nat → Port → List Port × Int
  | 0, h => ([], if (stepW p pos h).2 ≠ 0 then (stepW p pos h).2 else 5)
  | m + 1, h => if (stepW p pos h).2 ≠ 0 then ([], (stepW p pos h).2) else ((stepW p pos h).1 :: (runW p pos m (stepW p pos h).1).1, (runW p pos m (stepW p pos h).1).2)

section
variable {p : Plan} {n : Net}

theorem walk_Step_eq (hn : NetOf p n) (pos : List Int) (h : Port) : g_walk_Step n pos h = some (stepW p pos h) := by
  unfold g_walk_Step stepW
  simp only [net_Next hn, Option.bind_some]
  cases nextP p h with
  | none => rfl
  | some x =>
    simp only [Option.isSome_some, Option.getD_some, Bool.not_true, cond_false, net_Kind hn, Option.bind_some, cbeq]
    by_cases k4 : kindP p x.elem = 4
    · simp only [if_pos k4]
    · simp only [if_neg k4, walk_lies_eq, net_Through hn, Option.bind_some]
      cases throughP p x.elem x.fin (lieW pos x.elem) with
      | none => rfl
      | some o => rfl

theorem Run_loop (hn : NetOf p n) (pos : List Int) (m : Nat) (hm : m ≤ 1000) : ∀ (k : Nat) (h : Port) (out : List Port), out.length + k = m →
    loopR (g_walk_Run_l1 n pos (m : Int)) (h.elem, h.fin, out) = some (out ++ (runW p pos k h).1, (runW p pos k h).2) := by
  have hmost : (if (if 1000 < (m : Int) then (1000 : Int) else (m : Int)) > 0 then (if 1000 < (m : Int) then (1000 : Int) else (m : Int)) else 0) = (m : Int) := by
    have : (if 1000 < (m : Int) then (1000 : Int) else (m : Int)) = (m : Int) := if_neg (by omega)
    rw [this]
    split <;> omega
  intro k
  induction k with
  | zero =>
    intro h out hk
    refine loopR_inr ?_
    simp only [g_walk_Run_l1, walk_Step_eq hn, Option.bind_some, cbne, hmost, runW]
    by_cases e : (stepW p pos h).2 = 0
    · have : ((out.length : Int) == (m : Int)) = true := by rw [beq_iff_eq]; omega
      simp [e, this]
    · simp [e]
  | succ k ih =>
    intro h out hk
    by_cases e : (stepW p pos h).2 = 0
    · have d : ((out.length : Int) == (m : Int)) = false := by rw [beq_eq_false_iff_ne]; omega
      have ha : appI out [(stepW p pos h).1] = some (out ++ [(stepW p pos h).1]) := appI_ok (by simp; omega)
      rw [loopR_inl (s' := ((stepW p pos h).1.elem, (stepW p pos h).1.fin, out ++ [(stepW p pos h).1])) (by
        simp only [g_walk_Run_l1, walk_Step_eq hn, Option.bind_some, cbne, hmost, if_pos e, d, cond_false, ha]), ih _ _ (by simp; omega)]
      simp only [runW, e, ne_eq, not_true_eq_false, if_false, List.append_assoc, List.singleton_append]
    · refine loopR_inr ?_
      simp [g_walk_Run_l1, walk_Step_eq hn, cbne, e, runW]

theorem walk_Run_eq (hn : NetOf p n) (pos : List Int) (h : Port) (m : Nat) (hm : m ≤ 1000) : g_walk_Run n pos h (m : Int) = some (runW p pos m h) := by
  unfold g_walk_Run
  rw [Run_loop hn pos m hm m h [] (by simp)]
  rfl

theorem outs_cases (p : Plan) (e i : Int) : outsP p e i = [] ∨ (∃ w, outsP p e i = [w]) ∨ outsP p e i = [⟨1, 1⟩, ⟨2, 2⟩] := by
  unfold outsP
  split
  · split
    · exact .inr (.inl ⟨_, rfl⟩)
    · split
      · exact .inr (.inl ⟨_, rfl⟩)
      · split
        · split
          · exact .inr (.inr rfl)
          · exact .inr (.inl ⟨_, rfl⟩)
        · exact .inl rfl
  · exact .inl rfl

theorem through_some {e i x o : Int} (h : throughP p e i x = some o) : ∃ w ∈ outsP p e i, w.out = o ∧ (w.pos = 0 ∨ w.pos = x) := by
  unfold throughP at h
  have key : ∀ l : List Way, throughL l x = some o → ∃ w ∈ l, w.out = o ∧ (w.pos = 0 ∨ w.pos = x) := by
    intro l
    induction l with
    | nil => intro h; simp [throughL] at h
    | cons w l ih =>
      intro h
      unfold throughL at h
      split at h
      · rename_i hx
        exact ⟨w, by simp, by simpa using h, hx⟩
      · obtain ⟨v, hv, h1⟩ := ih h
        exact ⟨v, by simp [hv], h1⟩
  exact key _ h

/-! ### positions as they are needed -/
/-! ### the needs of steps -/
end
end Go.E
/- Plain Lean: RoadRuns answers true, for every argument. No condition. -/
namespace Go.E
open Go

section
variable {p : Plan} {n : Net}
end

end Go.E
/- Plain Lean: RoadWhole answers true, for every argument. No condition. -/
namespace Go.E
open Go

/-- The lie of points, as the document reads it. -/
def liesF (pos : List Int) (e : Int) : Int := match idx pos e with
  | some x => if x = 1 ∨ x = 2 then x else 0
  | none => 0

theorem R6_Lies_eq (pos : List Int) (e : Int) : g_R6_Lies pos e = some (liesF pos e) := by
  unfold g_R6_Lies liesF
  by_cases h1 : e < 0
  · simp [h1, idx_none (.inl h1)]
  · by_cases h2 : (pos.length : Int) ≤ e
    · simp [h1, h2, idx_none (.inr h2)]
    · obtain ⟨a, ha⟩ := idx_of (l := pos) (n := e) (by omega) (by omega)
      simp only [h1, h2, decide_false, cond_false, ha, Option.bind_some, cbne]
      by_cases c1 : a = 1
      · simp [c1]
      · by_cases c2 : a = 2
        · simp [c2]
        · have : (a != 2) = true := bne_iff_ne.2 c2
          simp [c1, c2, this]

theorem L7_lies_eq (l : List Need) (pos : List Int) (hl : l.length < 1000000) : g_L7_lies l pos = some (decide (∀ m ∈ l, liesF pos m.elem = m.pos)) := by
  unfold g_L7_lies
  obtain ⟨b, h1, h2⟩ := loop_ix (l := l) (step := g_L7_lies_l1 l pos) (Post := fun b => b = decide (∀ m ∈ l, liesF pos m.elem = m.pos)) (fun _ m => liesF pos m.elem = m.pos)
    (fun good => ⟨true, by simp [g_L7_lies_l1], by
      symm; rw [decide_eq_true_iff]; intro m hm
      obtain ⟨i, hi⟩ := List.getElem?_of_mem hm
      exact good i m hi⟩)
    (fun i m hm _ => by
      have hi := ilt hm
      by_cases c : liesF pos m.elem = m.pos
      · exact .inr ⟨by simp only [g_L7_lies_l1, dlt hm, cond_true, idx_nat, hm, Option.bind_some, R6_Lies_eq, cbne, if_pos c, wi64_succ (show i < 1000000000 by omega)], c⟩
      · exact .inl ⟨false, by simp only [g_L7_lies_l1, dlt hm, cond_true, idx_nat, hm, Option.bind_some, R6_Lies_eq, cbne, if_neg c], by
          symm; rw [decide_eq_false_iff_not]; intro h; exact c (h m (List.mem_of_getElem? hm))⟩)
  rw [h1, h2]

def fitsF (pos : List Int) (E : List Int) (e : Int) (r : Road) : Bool := decide (r.steps.map (·.elem) = E) && decide (r.fin = e) && decide (∀ m ∈ r.needs, liesF pos m.elem = m.pos)

/-- The elements to the end of a road, as points lie. -/
def chaseF (p : Plan) (pos : List Int) : Nat → Port → List Int → Option (List Int × Int)
  | 0, _, _ => none
  | k + 1, x, met => if x.elem ∈ met then none else if kindP p x.elem = 4 then some ([x.elem], 2) else match throughP p x.elem x.fin (lieW pos x.elem) with
    | none => none
    | some o => if 0 ≤ readsP p ⟨x.elem, o⟩ then some ([x.elem], 1) else match nextP p ⟨x.elem, o⟩ with
      | none => some ([x.elem], 3)
      | some y => match chaseF p pos k y (met ++ [x.elem]) with
        | none => none
        | some r => some (x.elem :: r.1, r.2)

section
variable {p : Plan} {n : Net}

theorem onF_needs (s : Int) : ∀ (k : Nat) (st : List Step) (nd : List Need) (x : Port) (met : List Int) (r : Road), r ∈ onF p s k st nd x met → ∀ m ∈ nd, m ∈ r.needs
  | 0, st, nd, x, met, r, h => by simp [onF] at h
  | k + 1, st, nd, x, met, r, h => by
    intro m hm
    rw [onF_succ] at h
    split at h
    · simp at h
    · split at h
      · simp at h; subst h; exact hm
      · obtain ⟨w, hw, h⟩ := List.mem_flatMap.1 h
        have hadd : m ∈ addN nd x.elem w.pos := by
          unfold addN
          split
          · exact hm
          · exact List.mem_append.2 (.inl hm)
        unfold wayR at h
        split at h
        · simp at h; subst h; exact hadd
        · split at h
          · simp at h; subst h; exact hadd
          · exact onF_needs s k _ _ _ _ r h m hadd

theorem wayR_needs (s : Int) (k : Nat) (st : List Step) (nd : List Need) (x : Port) (met : List Int) (w : Way) (r : Road) (h : r ∈ wayR p s k st nd x met w) : ∀ m ∈ addN nd x.elem w.pos, m ∈ r.needs := by
  intro m hm
  unfold wayR at h
  split at h
  · simp at h; subst h; exact hm
  · split at h
    · simp at h; subst h; exact hm
    · exact onF_needs s k _ _ _ _ r h m hm

theorem lieW_liesF {pos : List Int} {e q : Int} (hq : q = 1 ∨ q = 2) : liesF pos e = q ↔ lieW pos e = q := by
  unfold liesF lieW
  cases idx pos e with
  | none => simp
  | some a =>
    simp only [Option.getD_some]
    split
    · exact Iff.rfl
    · omega

theorem fits_no {pos E : List Int} {e : Int} {r : Road} {m : Need} (hm : m ∈ r.needs) (h : liesF pos m.elem ≠ m.pos) : fitsF pos E e r = false := by
  unfold fitsF
  have : decide (∀ m ∈ r.needs, liesF pos m.elem = m.pos) = false := by
    rw [decide_eq_false_iff_not]; intro h2; exact h (h2 m hm)
  rw [this, Bool.and_false]

theorem way_count0 (s : Int) (pos : List Int) (k : Nat) (st : List Step) (nd : List Need) (x : Port) (met : List Int) (w : Way) (hw : w ∈ outsP p x.elem x.fin) (E : List Int) (e : Int) (h1 : w.pos ≠ 0) (h2 : w.pos ≠ lieW pos x.elem) : (wayR p s k st nd x met w).countP (fitsF pos E e) = 0 := by
  rw [List.countP_eq_zero]
  intro r hr
  have hmem := wayR_needs s k st nd x met w r hr ⟨x.elem, w.pos⟩ (by unfold addN; rw [if_neg h1]; simp)
  have hq := (outs_fact hw).2.2.2.2.2 h1
  rw [fits_no hmem (fun h => h2 ((lieW_liesF hq.2).1 h).symm)]
  simp

/-- Of the ways through an element only that one counts that the points open. -/
theorem outs_count (s : Int) (pos : List Int) (k : Nat) (st : List Step) (nd : List Need) (x : Port) (met : List Int) {w : Way} (hw : w ∈ outsP p x.elem x.fin) (hx : w.pos = 0 ∨ w.pos = lieW pos x.elem) (E : List Int) (e : Int) :
    ((outsP p x.elem x.fin).flatMap (wayR p s k st nd x met)).countP (fitsF pos E e) = (wayR p s k st nd x met w).countP (fitsF pos E e) := by
  rcases outs_cases p x.elem x.fin with h | ⟨v, h⟩ | h
  · rw [h] at hw; simp at hw
  · rw [h] at hw ⊢
    simp at hw
    subst hw
    simp
  · have h1 : (⟨1, 1⟩ : Way) ∈ outsP p x.elem x.fin := by rw [h]; simp
    have h2 : (⟨2, 2⟩ : Way) ∈ outsP p x.elem x.fin := by rw [h]; simp
    rw [h] at hw ⊢
    simp only [List.flatMap_cons, List.flatMap_nil, List.append_nil, List.countP_append]
    simp at hw
    rcases hw with rfl | rfl
    · have hl : lieW pos x.elem = 1 := by simp at hx; omega
      rw [way_count0 s pos k st nd x met ⟨2, 2⟩ h2 E e (by decide) (by rw [hl]; decide)]
      rfl
    · have hl : lieW pos x.elem = 2 := by simp at hx; omega
      rw [way_count0 s pos k st nd x met ⟨1, 1⟩ h1 E e (by decide) (by rw [hl]; decide)]
      simp

theorem lies_add {pos : List Int} {nd : List Need} {x i : Int} {w : Way} (hw : w ∈ outsP p x i) (hx : w.pos = 0 ∨ w.pos = lieW pos x) (h : ∀ m ∈ nd, liesF pos m.elem = m.pos) : ∀ m ∈ addN nd x w.pos, liesF pos m.elem = m.pos := by
  intro m hm
  unfold addN at hm
  split at hm
  · exact h m hm
  · rename_i c
    rcases List.mem_append.1 hm with hm | hm
    · exact h m hm
    · simp at hm
      subst hm
      have hq := (outs_fact hw).2.2.2.2.2 c
      exact (lieW_liesF hq.2).2 (by simp only; omega)

theorem chase_count (s a : Int) (pos : List Int) : ∀ (k : Nat) (st : List Step) (nd : List Need) (x : Port) (E : List Int) (e : Int), st.length + k = 12 → (∀ m ∈ nd, liesF pos m.elem = m.pos) → chaseF p pos k x (a :: st.map (·.elem)) = some (E, e) →
    (onF p s (k + 1) st nd x (a :: st.map (·.elem))).countP (fitsF pos (st.map (·.elem) ++ E) e) = 1
  | 0, st, nd, x, E, e, hk, hnd, h => by simp [chaseF] at h
  | k + 1, st, nd, x, E, e, hk, hnd, h => by
    unfold chaseF at h
    split at h
    · cases h
    · rename_i hm
      rw [onF_succ, if_neg (by rintro (h | h) <;> first | exact hm h | omega)]
      by_cases k4 : kindP p x.elem = 4
      · rw [if_pos k4] at h ⊢
        cases h
        have : fitsF pos (st.map (·.elem) ++ [x.elem]) 2 (mkR s (-1) 2 (st ++ [⟨x.elem, x.fin, -1⟩]) nd) = true := by
          simp only [fitsF, mkR, List.map_append, List.map_cons, List.map_nil, decide_true, Bool.true_and]
          exact decide_eq_true hnd
        simp [this]
      · rw [if_neg k4] at h ⊢
        cases hth : throughP p x.elem x.fin (lieW pos x.elem) with
        | none => rw [hth] at h; cases h
        | some o =>
          rw [hth] at h
          simp only at h
          obtain ⟨w, hw, ho, hx⟩ := through_some hth
          have hla := lies_add hw hx hnd
          rw [outs_count s pos (k + 1) st nd x _ hw hx]
          unfold wayR
          rw [ho]
          by_cases hr : 0 ≤ readsP p ⟨x.elem, o⟩
          · rw [if_pos hr] at h ⊢
            cases h
            have : fitsF pos (st.map (·.elem) ++ [x.elem]) 1 (mkR s (readsP p ⟨x.elem, o⟩) 1 (st ++ [⟨x.elem, x.fin, o⟩]) (addN nd x.elem w.pos)) = true := by
              simp only [fitsF, mkR, List.map_append, List.map_cons, List.map_nil, decide_true, Bool.true_and]
              exact decide_eq_true hla
            simp [this]
          · rw [if_neg hr] at h ⊢
            cases hnx : nextP p ⟨x.elem, o⟩ with
            | none =>
              rw [hnx] at h
              simp only at h ⊢
              cases h
              have : fitsF pos (st.map (·.elem) ++ [x.elem]) 3 (mkR s (-1) 3 (st ++ [⟨x.elem, x.fin, o⟩]) (addN nd x.elem w.pos)) = true := by
                simp only [fitsF, mkR, List.map_append, List.map_cons, List.map_nil, decide_true, Bool.true_and]
                exact decide_eq_true hla
              simp [this]
            | some y =>
              rw [hnx] at h
              simp only at h ⊢
              have hmm : a :: st.map (·.elem) ++ [x.elem] = a :: (st ++ [(⟨x.elem, x.fin, o⟩ : Step)]).map (·.elem) := by simp
              rw [hmm] at h ⊢
              cases hc : chaseF p pos k y (a :: (st ++ [(⟨x.elem, x.fin, o⟩ : Step)]).map (·.elem)) with
              | none => rw [hc] at h; cases h
              | some r =>
                rw [hc] at h
                simp only at h
                cases h
                have ih := chase_count s a pos k (st ++ [⟨x.elem, x.fin, o⟩]) (addN nd x.elem w.pos) y r.1 r.2 (by simp; omega) hla hc
                have hE : st.map (·.elem) ++ x.elem :: r.1 = (st ++ [(⟨x.elem, x.fin, o⟩ : Step)]).map (·.elem) ++ r.1 := by simp
                rw [hE]
                exact ih

/-! ### the run to the first signal -/
def takeR (p : Plan) : List Port → List Port
  | [] => []
  | y :: r => if 0 ≤ readsP p y then [y] else y :: takeR p r

def hasR (p : Plan) (l : List Port) : Bool := l.any fun y => decide (0 ≤ readsP p y)

def freshL : List Int → List Int → Prop
  | _, [] => True
  | met, e :: r => e ∉ met ∧ freshL (met ++ [e]) r

theorem freshL_app : ∀ (a : List Int) (met b : List Int), freshL met (a ++ b) ↔ freshL met a ∧ freshL (met ++ a) b
  | [], met, b => by simp [freshL]
  | x :: a, met, b => by
    simp only [List.cons_append, freshL]
    rw [freshL_app a (met ++ [x]) b, and_assoc]
    simp

/-- Where a run has come to at last. -/
def lastR (h : Port) (l : List Port) : Port := l.getLast?.getD h

def restR (p : Plan) (h : Port) (T : List Port) (e : Int) : List Int := T.map (·.elem) ++ (if e = 2 then [((nextP p (lastR h T)).getD ⟨0, 0⟩).elem] else [])

theorem stepW_some {pos : List Int} {f x : Port} (hx : nextP p f = some x) : stepW p pos f = if kindP p x.elem = 4 then ((⟨0, 0⟩ : Port), (2 : Int)) else match throughP p x.elem x.fin (lieW pos x.elem) with
      | none => ((⟨0, 0⟩ : Port), (4 : Int))
      | some o => ((⟨x.elem, o⟩ : Port), (0 : Int)) := by unfold stepW; first | (simp only [hx]; done) | (simp only [hx]; rfl)

theorem stepW_none {pos : List Int} {f : Port} (hx : nextP p f = none) : stepW p pos f = (⟨0, 0⟩, 3) := by unfold stepW; simp only [hx]

theorem runW_go {pos : List Int} {f y : Port} (m : Nat) (h : stepW p pos f = (y, 0)) : runW p pos (m + 1) f = (y :: (runW p pos m y).1, (runW p pos m y).2) := by
  simp only [runW, h, ne_eq, not_true_eq_false, if_false]

theorem runW_stop {pos : List Int} {f y : Port} {e : Int} (m : Nat) (h : stepW p pos f = (y, e)) (he : e ≠ 0) : runW p pos (m + 1) f = ([], e) := by
  simp only [runW, h, ne_eq, he, not_false_eq_true, if_true]

theorem run_chase (pos : List Int) : ∀ (k : Nat) (f x : Port) (met : List Int) (e : Int), nextP p f = some x → e = (if hasR p (runW p pos (k + 1) f).1 = true then 1 else (runW p pos (k + 1) f).2) → (e = 1 ∨ e = 2 ∨ e = 3) →
    freshL met (restR p f (takeR p (runW p pos (k + 1) f).1) e) → (restR p f (takeR p (runW p pos (k + 1) f).1) e).length ≤ k → chaseF p pos k x met = some (restR p f (takeR p (runW p pos (k + 1) f).1) e, e)
  | 0, f, x, met, e, hx, he, hd, hf, hl => by
    exfalso
    have hstep := stepW_some (p := p) (pos := pos) hx
    by_cases k4 : kindP p x.elem = 4
    · rw [if_pos k4] at hstep
      have hr : runW p pos (0 + 1) f = ([], 2) := runW_stop 0 hstep (by decide)
      rw [hr] at he hl
      simp [hasR] at he
      subst he
      simp [restR, takeR] at hl
    · rw [if_neg k4] at hstep
      cases hth : throughP p x.elem x.fin (lieW pos x.elem) with
      | none =>
        rw [hth] at hstep
        have hr : runW p pos (0 + 1) f = ([], 4) := runW_stop 0 hstep (by decide)
        rw [hr] at he
        simp [hasR] at he
        omega
      | some o =>
        rw [hth] at hstep
        have hr : (runW p pos (0 + 1) f).1 = ⟨x.elem, o⟩ :: (runW p pos 0 ⟨x.elem, o⟩).1 := by rw [runW_go 0 hstep]
        rw [hr] at hl
        unfold takeR at hl
        split at hl <;> simp [restR] at hl
  | k + 1, f, x, met, e, hx, he, hd, hf, hl => by
    have hstep := stepW_some (p := p) (pos := pos) hx
    by_cases k4 : kindP p x.elem = 4
    · rw [if_pos k4] at hstep
      have hr : runW p pos (k + 1 + 1) f = ([], 2) := runW_stop (k + 1) hstep (by decide)
      rw [hr] at he hf hl ⊢
      simp [hasR] at he
      subst he
      have hrest : restR p f (takeR p []) 2 = [x.elem] := by simp [restR, takeR, lastR, hx]
      rw [hrest] at hf ⊢
      unfold chaseF
      rw [if_neg hf.1, if_pos k4]
    · rw [if_neg k4] at hstep
      cases hth : throughP p x.elem x.fin (lieW pos x.elem) with
      | none =>
        rw [hth] at hstep
        have hr : runW p pos (k + 1 + 1) f = ([], 4) := runW_stop (k + 1) hstep (by decide)
        rw [hr] at he
        simp [hasR] at he
        omega
      | some o =>
        rw [hth] at hstep
        have hr : runW p pos (k + 1 + 1) f = (⟨x.elem, o⟩ :: (runW p pos (k + 1) ⟨x.elem, o⟩).1, (runW p pos (k + 1) ⟨x.elem, o⟩).2) := runW_go (k + 1) hstep
        rw [hr] at he hf hl ⊢
        simp only at he hf hl ⊢
        by_cases hrd : 0 ≤ readsP p ⟨x.elem, o⟩
        · have ht : takeR p (⟨x.elem, o⟩ :: (runW p pos (k + 1) ⟨x.elem, o⟩).1) = [⟨x.elem, o⟩] := by unfold takeR; rw [if_pos hrd]
          have hh : hasR p (⟨x.elem, o⟩ :: (runW p pos (k + 1) ⟨x.elem, o⟩).1) = true := by simp [hasR, hrd]
          rw [hh] at he
          simp only [if_true] at he
          subst he
          rw [ht] at hf ⊢
          have hrest : restR p f [⟨x.elem, o⟩] 1 = [x.elem] := by simp [restR]
          rw [hrest] at hf ⊢
          unfold chaseF
          rw [if_neg hf.1, if_neg k4, hth]
          simp only [if_pos hrd]
        · have ht : takeR p (⟨x.elem, o⟩ :: (runW p pos (k + 1) ⟨x.elem, o⟩).1) = ⟨x.elem, o⟩ :: takeR p (runW p pos (k + 1) ⟨x.elem, o⟩).1 := by rw [takeR, if_neg hrd]
          have hh : hasR p (⟨x.elem, o⟩ :: (runW p pos (k + 1) ⟨x.elem, o⟩).1) = hasR p (runW p pos (k + 1) ⟨x.elem, o⟩).1 := by simp [hasR, hrd]
          rw [hh] at he
          rw [ht] at hf hl ⊢
          have hrest : restR p f (⟨x.elem, o⟩ :: takeR p (runW p pos (k + 1) ⟨x.elem, o⟩).1) e = x.elem :: restR p ⟨x.elem, o⟩ (takeR p (runW p pos (k + 1) ⟨x.elem, o⟩).1) e := by
            unfold restR lastR
            rw [List.getLast?_cons]
            simp
          rw [hrest] at hf hl ⊢
          unfold chaseF
          rw [if_neg hf.1, if_neg k4, hth]
          simp only [if_neg hrd]
          cases hnx : nextP p ⟨x.elem, o⟩ with
          | none =>
            have hr2 : runW p pos (k + 1) ⟨x.elem, o⟩ = ([], 3) := by
              exact runW_stop k (stepW_none hnx) (by decide)
            rw [hr2] at he ⊢
            simp [hasR] at he
            subst he
            simp [restR, takeR]
          | some y =>
            have ih := run_chase pos k ⟨x.elem, o⟩ y (met ++ [x.elem]) e hnx he hd hf.2 (by simp at hl; omega)
            simp only [ih]

end
end Go.E
/- Plain Lean: RoadWhole answers true, for every argument. No condition. -/
namespace Go.E
open Go

section
variable {p : Plan} {n : Net}

theorem takeR_take : ∀ l : List Port, takeR p l = l.take (takeR p l).length ∧ (takeR p l).length ≤ l.length
  | [] => by simp [takeR]
  | y :: r => by
    unfold takeR
    split
    · simp
    · obtain ⟨h1, h2⟩ := takeR_take r
      constructor
      · simp only [List.length_cons, List.take_succ_cons]
        rw [← h1]
      · simp; omega

theorem runW_len (pos : List Int) : ∀ (m : Nat) (f : Port), (runW p pos m f).1.length ≤ m
  | 0, f => by simp [runW]
  | m + 1, f => by
    unfold runW
    split
    · simp
    · have := runW_len pos m (stepW p pos f).1
      simp; omega

theorem last_eq (h : Port) (l : List Port) (hl : l.length < 1000000) : g_L7_last h l = some (lastR h l) := by
  unfold g_L7_last lastR
  by_cases c : l = []
  · subst c; rfl
  · have h1 : 1 ≤ l.length := List.length_pos_iff.2 c
    have d : ((l.length : Int) == 0) = false := by rw [beq_eq_false_iff_ne]; omega
    simp only [d, cond_false, last_idx l h1 hl]
    cases hx : l.getLast? with
    | none => rw [List.getLast?_eq_none_iff] at hx; exact absurd hx c
    | some x => rfl

/-- The roads that fit are counted. -/
theorem Whole_l3 (pos : List Int) (E : List Int) (a e : Int) (b : Bool) (l : List Road) (hl : l.length < 1000000) (hlr : ∀ r ∈ l, LightR r) (hE : E.length ≤ 100) : loopR (g_L7_RoadWhole_l3 pos (e, b) (a :: E) l) (0, 0) = some (((l.countP (fitsF pos E e) : Nat) : Int) == 1) := by
  refine loop_list (γ := Unit) l (fun i _ => ((((l.take i).countP (fitsF pos E e) : Nat) : Int), (i : Int))) (fun i _ r => some (((((l.take i).countP (fitsF pos E e) + r.countP (fitsF pos E e) : Nat)) : Int) == 1)) (fun _ => ?_) (fun i _ r rs hr hi => ?_) () |>.trans ?_
  · simp [g_L7_RoadWhole_l3]
  · right
    refine ⟨(), ?_⟩
    have htk : (l.take (i + 1)).countP (fitsF pos E e) = (l.take i).countP (fitsF pos E e) + (if fitsF pos E e r = true then 1 else 0) := by
      rw [List.take_add_one, hr, List.countP_append]; simp [List.countP_cons]
    have hcl : (l.take i).countP (fitsF pos E e) ≤ 1000000 := by
      have := List.countP_le_length (p := fitsF pos E e) (l := l.take i)
      rw [List.length_take] at this; omega
    generalize (l.take i).countP (fitsF pos E e) = c at htk hcl
    have hL := hlr r (List.mem_of_getElem? hr)
    have h1 := hL.steps
    have hsl : slO (a :: E) 1 (((a :: E).length : Nat) : Int) = some E := by
      rw [slO_nil (by simp)]
      unfold slI
      rw [if_pos ⟨by omega, by simp; omega, by omega⟩]; simp
    have hb : g_R6_SameInts (r.steps.map (·.elem)) E = some (decide (r.steps.map (·.elem) = E)) := eqInts2 _ E (by simp; omega)
    rw [htk, List.countP_cons]
    refine ⟨?_, by rw [Nat.add_comm (rs.countP (fitsF pos E e)), Nat.add_assoc]⟩
    by_cases q1 : r.steps.map (·.elem) = E
    · by_cases q2 : r.fin = e
      · by_cases q3 : ∀ m ∈ r.needs, liesF pos m.elem = m.pos
        · have hf : fitsF pos E e r = true := by unfold fitsF; rw [decide_eq_true q1, decide_eq_true q2, decide_eq_true q3]; rfl
          rw [if_pos hf]
          have hw : wi64 ((c : Int) + 1) = ((c + 1 : Nat) : Int) := wi64_succ (by omega)
          simp only [g_L7_RoadWhole_l3, dlt hr, cond_true, idx_nat, hr, Option.bind_some, Elems_eq r (by omega), hsl, hb, decide_eq_true q1, cbeq, if_pos q2, L7_lies_eq r.needs pos (by have := hL.needs; omega), decide_eq_true q3, hw, wi64_succ (show i < 1000000000 by omega)]
        · have hf : fitsF pos E e r = false := by unfold fitsF; rw [decide_eq_false q3, Bool.and_false]
          rw [hf, if_neg (by decide), Nat.add_zero]
          simp only [g_L7_RoadWhole_l3, dlt hr, cond_true, idx_nat, hr, Option.bind_some, Elems_eq r (by omega), hsl, hb, decide_eq_true q1, cbeq, if_pos q2, L7_lies_eq r.needs pos (by have := hL.needs; omega), decide_eq_false q3, cond_false, wi64_succ (show i < 1000000000 by omega)]
      · have hf : fitsF pos E e r = false := by unfold fitsF; rw [decide_eq_false q2, Bool.and_false]; rfl
        rw [hf, if_neg (by decide), Nat.add_zero]
        simp only [g_L7_RoadWhole_l3, dlt hr, cond_true, idx_nat, hr, Option.bind_some, Elems_eq r (by omega), hsl, hb, decide_eq_true q1, cbeq, if_neg q2, cond_false, wi64_succ (show i < 1000000000 by omega)]
    · have hf : fitsF pos E e r = false := by unfold fitsF; rw [decide_eq_false q1]; rfl
      rw [hf, if_neg (by decide), Nat.add_zero]
      simp only [g_L7_RoadWhole_l3, dlt hr, cond_true, idx_nat, hr, Option.bind_some, Elems_eq r (by omega), hsl, hb, decide_eq_false q1, cond_false, wi64_succ (show i < 1000000000 by omega)]
  · simp

theorem Whole_l2 (hn : NetOf p n) (hv : Valid p) (pos : List Int) (k : Int) (hk : 0 ≤ k ∧ k < p.signals.length) (sg : Signal) (hsg : idx p.signals k = some sg) (T : List Port) (run : List Port) (e0 e : Int) (done : Bool) (hT : T = run.take T.length) (hTl : T.length ≤ 13) (hTr : T.length ≤ run.length)
    (H : done = true → freshL [sg.at_.elem] (restR p sg.at_ T e) → (restR p sg.at_ T e).length ≤ 12 → restR p sg.at_ T e ≠ [] → (ofF p k).countP (fitsF pos (restR p sg.at_ T e) e) = 1) :
    loopR (g_L7_RoadWhole_l2 pos n k (sg.at_, true) (run, e0) (T.length : Int) (e, done)) (0, [sg.at_.elem]) = some true := by
  have hrun : ∀ i : Nat, i < T.length → run[i]? = T[i]? := fun i hi => by
    have : (run.take T.length)[i]? = T[i]? := by rw [← hT]
    rw [← this, List.getElem?_take, if_pos hi]
  have key : ∀ (m i : Nat), i + m = T.length → freshL [sg.at_.elem] ((T.take i).map (·.elem)) → loopR (g_L7_RoadWhole_l2 pos n k (sg.at_, true) (run, e0) (T.length : Int) (e, done)) ((i : Int), sg.at_.elem :: (T.take i).map (·.elem)) = some true := by
    intro m
    induction m with
    | zero =>
      intro i hi hf
      have hi' : i = T.length := by omega
      subst hi'
      rw [List.take_length] at hf ⊢
      refine loopR_inr ?_
      have d : decide (((T.length : Nat) : Int) < ((T.length : Nat) : Int)) = false := by simp
      have hlen : ((T.map (·.elem)).length) ≤ 13 := by simpa using hTl
      -- behind the gate
      have tail : ∀ E : List Int, E = restR p sg.at_ T e → freshL [sg.at_.elem] E → E.length ≤ 20 → (((bif (!done) then some true else bif decide (12 < wi64 (((sg.at_.elem :: E).length : Int) - 1)) then some true else some (((sg.at_.elem :: E).length : Int) == 1) : Option (Bool))).bind fun (t776 : Bool) => bif t776 then some true else (g_road_Of n k).bind fun y787 => loopR (g_L7_RoadWhole_l3 pos (e, done) (sg.at_.elem :: E) y787) (0, 0)) = some true := by
        intro E hE hfr hEl
        cases hd : done with
        | false => rfl
        | true =>
          have hw : wi64 (((sg.at_.elem :: E).length : Int) - 1) = (E.length : Int) := by
            have : (((sg.at_.elem :: E).length : Int) - 1) = (E.length : Int) := by simp
            rw [this, wi64_id] <;> omega
          rw [hw]
          by_cases c1 : 12 < E.length
          · have : decide (12 < (E.length : Int)) = true := by simp; omega
            simp only [Bool.not_true, cond_false, this, cond_true, Option.bind_some]
          · have d1 : decide (12 < (E.length : Int)) = false := by simp; omega
            by_cases c2 : E = []
            · rw [c2]; rfl
            · have hpos : 1 ≤ E.length := List.length_pos_iff.2 c2
              have d2 : (((sg.at_.elem :: E).length : Int) == 1) = false := by rw [beq_eq_false_iff_ne]; simp; omega
              have hl := ofF_len (p := p) k
              simp only [Bool.not_true, cond_false, d1, d2, Option.bind_some, road_Of_eq hn]
              rw [Whole_l3 pos E sg.at_.elem e true (ofF p k) (by omega) (fun r hr => ofF_light hr) (by omega)]
              have := H hd (hE ▸ hfr) (by rw [← hE]; omega) (by rw [← hE]; exact c2)
              rw [← hE] at this
              rw [this]; rfl
      unfold g_L7_RoadWhole_l2
      simp only [d, cond_false]
      by_cases ce : e = 2
      · have hs : slI run 0 ((T.length : Nat) : Int) = some T := by rw [take_slI run T.length hTr, ← hT]
        have e1 : (e == 2) = true := by rw [beq_iff_eq]; exact ce
        have hin := In_eq (sg.at_.elem :: T.map (·.elem)) (by simp; omega) (((nextP p (lastR sg.at_ T)).getD ⟨0, 0⟩).elem)
        simp only [e1, cond_true, hs, Option.bind_some, last_eq sg.at_ T (by omega), net_Next hn, hin]
        by_cases cm : ((nextP p (lastR sg.at_ T)).getD ⟨0, 0⟩).elem ∈ sg.at_.elem :: T.map (·.elem)
        · simp only [decide_eq_true cm, cond_true, seqR, Option.bind_some, Option.map_some]
        · simp only [decide_eq_false cm, cond_false]
          have hE : restR p sg.at_ T e = T.map (·.elem) ++ [((nextP p (lastR sg.at_ T)).getD ⟨0, 0⟩).elem] := by unfold restR; rw [if_pos ce]
          rw [appI_ok (by simp; omega)]
          simp only [Option.bind_some, seqR]
          have := tail (T.map (·.elem) ++ [((nextP p (lastR sg.at_ T)).getD ⟨0, 0⟩).elem]) hE.symm ((freshL_app _ _ _).2 ⟨hf, by simp [freshL]; simpa using cm⟩) (by simp; omega)
          simp only [List.cons_append] at this ⊢
          rw [this]; rfl
      · have e1 : (e == 2) = false := by rw [beq_eq_false_iff_ne]; exact ce
        have hE : restR p sg.at_ T e = T.map (·.elem) := by unfold restR; rw [if_neg ce, List.append_nil]
        simp only [e1, cond_false, seqR, Option.bind_some]
        rw [tail (T.map (·.elem)) hE.symm hf (by omega)]; rfl
    | succ m ih =>
      intro i hi hf
      have hiT : T[i]? = some (T[i]'(by omega)) := List.getElem?_eq_getElem _
      have d : decide ((i : Int) < ((T.length : Nat) : Int)) = true := by simp; omega
      have hri : run[i]? = some (T[i]'(by omega)) := by rw [hrun i (by omega)]; exact hiT
      have hin := In_eq (sg.at_.elem :: (T.take i).map (·.elem)) (by simp; omega) (T[i]'(by omega)).elem
      by_cases cm : (T[i]'(by omega)).elem ∈ sg.at_.elem :: (T.take i).map (·.elem)
      · refine loopR_inr ?_
        simp only [g_L7_RoadWhole_l2, d, cond_true, idx_nat, hri, Option.bind_some, hin, decide_eq_true cm]
      · have htk : (T.take (i + 1)).map (·.elem) = (T.take i).map (·.elem) ++ [(T[i]'(by omega)).elem] := take_map_succ hiT
        have ih := ih (i + 1) (by omega) (by rw [htk]; exact (freshL_app _ _ _).2 ⟨hf, by simp [freshL]; simpa using cm⟩)
        rw [htk] at ih
        rw [← ih]
        refine loopR_inl ?_
        simp only [g_L7_RoadWhole_l2, d, cond_true, idx_nat, hri, Option.bind_some, hin, decide_eq_false cm, cond_false]
        rw [appI_ok (by simp; omega)]
        simp only [Option.bind_some, wi64_succ (show i < 1000000000 by omega), List.cons_append]
  have := key T.length 0 (by omega) (by simp [freshL])
  simpa using this

theorem Whole_l1 (hn : NetOf p n) (pos : List Int) (k : Int) (sg : Signal) (run : List Port) (e0 : Int) (t : Bool) (hl : run.length ≤ 13) (v : Option Bool)
    (hv : v = (((if hasR p run = true then some ((1 : Int), true) else some (e0, t) : Option (Int × Bool))).bind fun t351 => loopR (g_L7_RoadWhole_l2 pos n k (sg.at_, true) (run, e0) (((takeR p run).length : Nat) : Int) t351) (0, [sg.at_.elem]))) :
    loopR (g_L7_RoadWhole_l1 pos n k (sg.at_, true) (run, e0) t) 0 = v := by
  have key : ∀ (r : List Port) (i : Nat), run.drop i = r → i ≤ run.length → (i = 0 ∨ ∃ y, run[i - 1]? = some y ∧ readsP p y < 0) → (hasR p run = hasR p r) → ((takeR p run).length = i + (takeR p r).length) → loopR (g_L7_RoadWhole_l1 pos n k (sg.at_, true) (run, e0) t) (i : Int) = v := by
    intro r
    induction r with
    | nil =>
      intro i hd hi hprev hh hT
      have : i = run.length := by have := congrArg List.length hd; simp at this; omega
      subst this
      have hT' : (takeR p run).length = run.length := by rw [hT]; simp [takeR]
      have hh' : hasR p run = false := by rw [hh]; rfl
      rw [loopR_eq]
      unfold g_L7_RoadWhole_l1
      simp only [dge, cond_false, Option.bind_some]
      have hx : (((bif decide ((0 : Int) < (run.length : Int)) then (idx run (wi64 ((run.length : Int) - 1))).bind fun y362 => (g_net_Net_Reads n y362).bind fun y364 => some (decide (0 ≤ y364)) else some false : Option (Bool))).bind fun (t359 : Bool) => bif t359 then some ((1 : Int), true) else some (e0, t)) = some (e0, t) := by
        rcases hprev with h0 | ⟨y, hy, hry⟩
        · have : run.length = 0 := h0
          rw [this]; rfl
        · have hpos : 1 ≤ run.length := by have := ilt hy; omega
          have d : decide ((0 : Int) < (run.length : Int)) = true := by simp; omega
          have hw : wi64 ((run.length : Int) - 1) = ((run.length - 1 : Nat) : Int) := by rw [wi64_id] <;> omega
          have dr : decide (0 ≤ readsP p y) = false := by simp; omega
          simp only [d, cond_true, hw, idx_nat, hy, Option.bind_some, net_Reads hn, dr, cond_false]
      rw [hx]
      rw [hv, hh', hT']
      simp only [Option.bind_some, Bool.false_eq_true, if_false]
      cases loopR (g_L7_RoadWhole_l2 pos n k (sg.at_, true) (run, e0) (run.length : Int) (e0, t)) (0, [sg.at_.elem]) <;> rfl
    | cons y r ih =>
      intro i hd hi hprev hh hT
      have hlt : i < run.length := by have := congrArg List.length hd; simp at this; omega
      have ha : run[i]? = some y := by
        have : (run.drop i)[0]? = some y := by rw [hd]; rfl
        simpa using this
      have hr : run.drop (i + 1) = r := by
        have : (run.drop i).drop 1 = r := by rw [hd]; rfl
        rwa [List.drop_drop] at this
      have hstep : g_L7_RoadWhole_l1 pos n k (sg.at_, true) (run, e0) t (i : Int) = some (.inl ((i + 1 : Nat) : Int)) := by
        unfold g_L7_RoadWhole_l1
        rcases hprev with rfl | ⟨z, hz, hrz⟩
        · simp only [dlt ha, cond_true, show (((0 : Nat) : Int) == 0) = true by decide, Option.bind_some, wi64_succ (show 0 < 1000000000 by omega)]
        · by_cases i0 : i = 0
          · subst i0
            simp only [dlt ha, cond_true, show (((0 : Nat) : Int) == 0) = true by decide, Option.bind_some, wi64_succ (show 0 < 1000000000 by omega)]
          · have d0 : ((i : Int) == 0) = false := by rw [beq_eq_false_iff_ne]; omega
            have hw : wi64 ((i : Int) - 1) = ((i - 1 : Nat) : Int) := by rw [wi64_id] <;> omega
            have dr : decide (readsP p z < 0) = true := by simp; omega
            simp only [dlt ha, cond_true, d0, cond_false, hw, idx_nat, hz, Option.bind_some, net_Reads hn, dr, wi64_succ (show i < 1000000000 by omega)]
      rw [loopR_inl hstep]
      by_cases c : 0 ≤ readsP p y
      · have hT2 : (takeR p run).length = i + 1 := by rw [hT, takeR, if_pos c]; rfl
        have hh2 : hasR p run = true := by rw [hh]; simp [hasR, c]
        rw [loopR_eq]
        unfold g_L7_RoadWhole_l1
        have hw : wi64 (((i + 1 : Nat) : Int) - 1) = (i : Int) := by rw [wi64_id] <;> omega
        have hx : ((bif decide (((i + 1 : Nat) : Int) < (run.length : Int)) then bif (((i + 1 : Nat) : Int) == 0) then some true else (idx run (wi64 (((i + 1 : Nat) : Int) - 1))).bind fun y324 => (g_net_Net_Reads n y324).bind fun y326 => some (decide (y326 < 0)) else some false : Option (Bool))) = some false := by
          by_cases c2 : i + 1 < run.length
          · have d : decide (((i + 1 : Nat) : Int) < (run.length : Int)) = true := by simp; omega
            have d0 : (((i + 1 : Nat) : Int) == 0) = false := by rw [beq_eq_false_iff_ne]; omega
            have dr : decide (readsP p y < 0) = false := by simp; omega
            simp only [d, cond_true, d0, cond_false, hw, idx_nat, ha, Option.bind_some, net_Reads hn, dr]
          · have d : decide (((i + 1 : Nat) : Int) < (run.length : Int)) = false := by simp; omega
            simp only [d, cond_false]
        have d1 : decide ((0 : Int) < ((i + 1 : Nat) : Int)) = true := decide_eq_true (by omega)
        have dr : decide (0 ≤ readsP p y) = true := by simpa using c
        simp only [hx, Option.bind_some, cond_false]
        simp only [d1, cond_true, hw, idx_nat, ha, Option.bind_some, net_Reads hn, dr]
        rw [hv, hh2, hT2]
        simp only [Option.bind_some, if_true]
        cases loopR (g_L7_RoadWhole_l2 pos n k (sg.at_, true) (run, e0) ((i + 1 : Nat) : Int) (1, true)) (0, [sg.at_.elem]) <;> rfl
      · refine ih (i + 1) hr (by omega) (.inr ⟨y, by simpa using ha, by omega⟩) ?_ ?_
        · rw [hh]; simp [hasR, c]
        · rw [hT, takeR, if_neg c, List.length_cons]; omega
  exact key run 0 rfl (Nat.zero_le _) (.inl rfl) rfl (by omega)

end

theorem RoadWhole_true (p : Plan) (s : Int) (pos : List Int) (ks : (Lit.int .u8 s).wf = true) : g_L7_RoadWhole p s pos = some true := by
  unfold g_L7_RoadWhole
  simp only [known7, Option.bind_some, Bool.not_true, cond_false]
  obtain ⟨b, h1, h2⟩ := fine_total p
  simp only [h1, Option.bind_some]
  cases b with
  | false => rfl
  | true =>
    have hv := h2 rfl
    obtain ⟨o, h3, h4⟩ := made_total p
    obtain ⟨n, rfl, hn⟩ := h4 h1
    simp only [Bool.not_true, cond_false, h3, Option.bind_some, optM]
    by_cases lp : 100 < pos.length
    · have d : decide (100 < (pos.length : Int)) = true := by simp; omega
      simp only [d, cond_true, Option.bind_some]
    have d : decide (100 < (pos.length : Int)) = false := by simp; omega
    simp only [d, cond_false, Option.bind_some]
    by_cases l0 : p.signals.length = 0
    · have : ((p.signals.length : Int) == 0) = true := by rw [beq_iff_eq]; omega
      simp only [this, cond_true]
    have d : ((p.signals.length : Int) == 0) = false := by rw [beq_eq_false_iff_ne]; omega
    obtain ⟨u1, u2, u3⟩ := u8w ks
    obtain ⟨k, k1, k2, k3⟩ := mod_ok (a := s) (n := (p.signals.length : Int)) u1 (by omega)
    obtain ⟨sg, hsg⟩ := idx_of (l := p.signals) (n := k) k2 k3
    obtain ⟨hm, -⟩ := idx_at hsg
    obtain ⟨x, hx, hxk⟩ := hv.sig.next _ sg hm
    have hrun := walk_Run_eq hn pos sg.at_ 13 (by omega)
    rw [show ((13 : Nat) : Int) = 13 from rfl] at hrun
    have hlen := runW_len (p := p) pos 13 sg.at_
    have hor : ((bif (runW p pos 13 sg.at_).2 == 2 then some true else some ((runW p pos 13 sg.at_).2 == 3) : Option Bool)) = some (decide ((runW p pos 13 sg.at_).2 = 2 ∨ (runW p pos 13 sg.at_).2 = 3)) := by
      rw [cbeq]
      by_cases c : (runW p pos 13 sg.at_).2 = 2
      · simp [c]
      · by_cases c3 : (runW p pos 13 sg.at_).2 = 3
        · simp [c3]
        · simp [c, c3]
    simp only [d, cond_false, u3, k1, Option.bind_some, net_At_eq hn, hsg, hrun, hor]
    obtain ⟨t1, t2⟩ := takeR_take (p := p) (runW p pos 13 sg.at_).1
    have hof : ofF p k = onF p k 13 [] [] x [sg.at_.elem] := by unfold ofF; rw [hsg]; simp only [hx]
    have goal : ∀ (e : Int) (done : Bool), e = (if hasR p (runW p pos 13 sg.at_).1 = true then 1 else (runW p pos 13 sg.at_).2) → (done = true → e = 1 ∨ e = 2 ∨ e = 3) →
        loopR (g_L7_RoadWhole_l2 pos n k (sg.at_, true) ((runW p pos 13 sg.at_).1, (runW p pos 13 sg.at_).2) (((takeR p (runW p pos 13 sg.at_).1).length : Nat) : Int) (e, done)) (0, [sg.at_.elem]) = some true := by
      intro e done he hd
      refine Whole_l2 hn hv pos k ⟨k2, k3⟩ sg hsg _ _ _ _ _ t1 (by omega) t2 (fun h5 h6 h7 h8 => ?_)
      have hc := run_chase pos 12 sg.at_ x [sg.at_.elem] e hx he (hd h5) h6 h7
      have := chase_count k sg.at_.elem pos 12 [] [] x _ e rfl (by simp) (by simpa using hc)
      rw [hof]
      simpa using this
    refine Whole_l1 hn pos k sg (runW p pos 13 sg.at_).1 (runW p pos 13 sg.at_).2 _ (by omega) (some true) ?_
    by_cases c : hasR p (runW p pos 13 sg.at_).1 = true
    · rw [if_pos c]
      simp only [Option.bind_some]
      exact (goal 1 true (by rw [if_pos c]) (fun _ => .inl rfl)).symm
    · rw [if_neg c]
      simp only [Option.bind_some]
      refine (goal _ _ (by rw [if_neg c]) (fun h => ?_)).symm
      simp at h
      omega

end Go.E
