/- Plain Lean: what a net says is what the plan says. No condition. -/
import Derived.KernelRfl
import Derived.Test.YtoofmfiallkmbaaJ5
set_option linter.unusedVariables false
set_option linter.unusedSimpArgs false
namespace Go.E
open Go

theorem g_R6_Kind_eq (p : Plan) (e : Int) : g_R6_Kind p e = some (kindP p e) := by
  unfold g_R6_Kind; rw [g_R6_kind_eq]; rfl

section
variable {p : Plan} {n : Net}
theorem net_elem (h : NetOf p n) (e : Int) : g_net_Net_elem n e = some ((idx p.elems e).getD ⟨ByteArray.empty, 0, 0⟩) := by
  unfold g_net_Net_elem
  rw [h.plan]
  by_cases h1 : e < 0
  · simp [h1, idx_none (.inl h1)]
  · by_cases h2 : (p.elems.length : Int) ≤ e
    · simp [h1, h2, idx_none (.inr h2)]
    · obtain ⟨a, ha⟩ := idx_of (l := p.elems) (n := e) (by omega) (by omega)
      simp [h1, h2, ha]

theorem net_Kind (h : NetOf p n) (e : Int) : g_net_Net_Kind n e = some (kindP p e) := by
  unfold g_net_Net_Kind kindP
  rw [net_elem h]
  cases idx p.elems e <;> rfl

theorem net_Next (h : NetOf p n) (x : Port) : g_net_Net_Next n x = some ((nextP p x).getD ⟨0, 0⟩, (nextP p x).isSome) := by
  unfold g_net_Net_Next; rw [h.next]

theorem readsP_cases (p : Plan) (x : Port) : readsP p x = -1 ∨ (0 ≤ readsP p x ∧ readsP p x < p.signals.length) := by
  rcases readsF_spec x p.signals 0 with ⟨h, _⟩ | ⟨k, s, h1, _, h3, _⟩
  · exact .inl h
  · have := ilt h1
    right
    unfold readsP
    rw [h3]; omega

theorem net_Reads (h : NetOf p n) (x : Port) : g_net_Net_Reads n x = some (readsP p x) := by
  unfold g_net_Net_Reads
  rw [h.reads]
  rcases readsP_cases p x with h1 | ⟨h1, _⟩
  · rw [if_neg (by omega), h1]; rfl
  · rw [if_pos h1]; rfl

/-- The ways through an element. -/
def outsP (p : Plan) (e i : Int) : List Way :=
  if hasP p ⟨e, i⟩ then if kindP p e = 1 then [⟨1 - i, 0⟩] else if kindP p e = 3 then [⟨if i = 0 then 1 else if i = 1 then 0 else if i = 2 then 3 else 2, 0⟩] else if kindP p e = 2 then if i = 0 then [⟨1, 1⟩, ⟨2, 2⟩] else [⟨0, i⟩] else [] else []

theorem R6_Outs_eq (p : Plan) (e i : Int) : g_R6_Outs p e i = some (outsP p e i) := by
  unfold g_R6_Outs outsP
  simp only [g_R6_has_eq, Option.bind_some, g_R6_kind_eq, cbeq]
  cases hh : hasP p ⟨e, i⟩ with
  | false => rfl
  | true =>
    obtain ⟨h1, h2, h3⟩ := hasP_fin hh
    simp only at h1 h2 h3
    simp only [Bool.not_true, cond_false, if_true]
    by_cases k1 : kindP p e = 1
    · simp only [if_pos k1, wi64_id (n := 1 - i) (by omega) (by omega)]
    · by_cases k3 : kindP p e = 3
      · simp only [if_neg k1, if_pos k3]
        have : i = 0 ∨ i = 1 ∨ i = 2 ∨ i = 3 := by omega
        rcases this with rfl | rfl | rfl | rfl <;> rfl
      · by_cases k2 : kindP p e = 2
        · simp only [if_neg k1, if_neg k3, if_pos k2]
          by_cases i0 : i = 0 <;> simp [i0]
        · simp only [if_neg k1, if_neg k3, if_neg k2]

theorem net_Outs (h : NetOf p n) (e i : Int) : g_net_Net_Outs n e i = some (outsP p e i) := by
  unfold g_net_Net_Outs outsP
  simp only [net_Kind h, Option.bind_some, g_plan_Ends_eq, cbeq]
  by_cases h0 : i < 0
  · have : hasP p ⟨e, i⟩ = false := by simp [hasP]; omega
    simp [h0, this]
  · by_cases h1 : endsF (kindP p e) ≤ i
    · have : hasP p ⟨e, i⟩ = false := by simp [hasP]; omega
      simp [h0, h1, this]
    · have hh : hasP p ⟨e, i⟩ = true := by simp [hasP]; omega
      obtain ⟨_, h2, h3⟩ := hasP_fin hh
      simp only at h2 h3
      simp only [h0, h1, decide_false, cond_false, Option.bind_some, hh, if_true]
      by_cases k1 : kindP p e = 1
      · simp only [if_pos k1, wi64_id (n := 1 - i) (by omega) (by omega)]
      · by_cases k3 : kindP p e = 3
        · simp only [if_neg k1, if_pos k3]
          have : i = 0 ∨ i = 1 ∨ i = 2 ∨ i = 3 := by omega
          rcases this with rfl | rfl | rfl | rfl <;> rfl
        · by_cases k2 : kindP p e = 2
          · simp only [if_neg k1, if_neg k3, if_pos k2]
            rw [k2] at h3
            have : i = 0 ∨ i = 1 ∨ i = 2 := by simp [endsF] at h3; omega
            rcases this with rfl | rfl | rfl <;> rfl
          · simp only [if_neg k1, if_neg k3, if_neg k2]

/-- The way that the points' position opens. -/
def throughL : List Way → Int → Option Int
  | [], _ => none
  | w :: r, x => if w.pos = 0 ∨ w.pos = x then some w.out else throughL r x

def throughP (p : Plan) (e i x : Int) : Option Int := throughL (outsP p e i) x

theorem outsP_len (p : Plan) (e i : Int) : (outsP p e i).length ≤ 2 := by
  unfold outsP
  repeat' split
  all_goals simp

theorem net_Through (h : NetOf p n) (e i x : Int) : g_net_Net_Through n e i x = some ((throughP p e i x).getD 0, (throughP p e i x).isSome) := by
  unfold g_net_Net_Through throughP
  rw [net_Outs h]
  simp only [Option.bind_some]
  have hl := outsP_len p e i
  refine loop_list (γ := Unit) (outsP p e i) (fun k _ => (k : Int)) (fun _ _ r => some ((throughL r x).getD 0, (throughL r x).isSome)) (fun _ => ?_) (fun k _ a r ha hi => ?_) ()
  · simp [g_net_Net_Through_l1, throughL]
  · simp only [g_net_Net_Through_l1, idx_nat, ha, Option.bind_some, dlt ha, cond_true, throughL, cbeq]
    by_cases h1 : a.pos = 0
    · left; simp [h1]
    · by_cases h2 : a.pos = x
      · left
        simp [h1, h2]
      · right
        have : (a.pos == x) = false := beq_eq_false_iff_ne.2 h2
        exact ⟨(), by simp [h1, this, wi64_succ (show k < 1000000000 by omega)], by simp [h1, h2]⟩

end
end Go.E
/- Plain Lean: RoadFinds answers true, for every argument. No condition. -/
namespace Go.E
open Go

/-! ### rows that are one -/
theorem eq_loop {α : Type} [DecidableEq α] {a b : List α} (hl : a.length = b.length) (hb : a.length < 1000000) {step : Int → Option (Int ⊕ Bool)}
    (h : ∀ i : Nat, i ≤ a.length → step (i : Int) = if h : i < a.length then (if a[i] = b[i]'(by omega) then some (.inl ((i + 1 : Nat) : Int)) else some (.inr false)) else some (.inr true)) : loopR step 0 = some (decide (a = b)) := by
  by_cases hab : a = b
  · subst hab
    obtain ⟨r, h1, h2⟩ := loop_ix (l := a) (step := step) (Post := fun r => r = true) (fun _ _ => True) (fun _ => ⟨true, by rw [h _ (Nat.le_refl _)]; simp, rfl⟩)
      (fun i x hx _ => .inr ⟨by have := ilt hx; rw [h _ (by omega), dif_pos this, if_pos rfl], trivial⟩)
    rw [h1, h2]; simp
  · obtain ⟨r, h1, h2⟩ := loop_ix (l := a) (step := step) (Post := fun r => r = false) (fun i x => b[i]? = some x) (fun good => by
        exfalso; refine hab (List.ext_getElem hl fun i h1 h2 => ?_)
        have := good i _ (List.getElem?_eq_getElem h1)
        rw [List.getElem?_eq_getElem h2] at this
        exact (Option.some.inj this).symm)
      (fun i x hx _ => by
        have hi := ilt hx
        have hx' : a[i] = x := Option.some.inj ((List.getElem?_eq_getElem hi).symm.trans hx)
        rw [h _ (by omega), dif_pos hi]
        by_cases e : a[i] = b[i]'(by omega)
        · exact .inr ⟨by rw [if_pos e], by rw [List.getElem?_eq_getElem (by omega), ← e, hx']⟩
        · exact .inl ⟨false, by rw [if_neg e], rfl⟩)
    rw [h1, h2]; simp [hab]

theorem eq_step {α : Type} [DecidableEq α] {a b : List α} (hl : a.length = b.length) (hb : a.length < 1000000) (i : Nat) (hi : i ≤ a.length) :
    (bif decide ((i : Int) < (a.length : Int)) then (idx a i).bind fun y => (idx b i).bind fun z => bif (!(y == z)) then some (.inr false) else some (.inl (wi64 ((i : Int) + 1))) else some (.inr true) : Option (Int ⊕ Bool)) =
      if h : i < a.length then (if a[i] = b[i]'(by omega) then some (.inl ((i + 1 : Nat) : Int)) else some (.inr false)) else some (.inr true) := by
  by_cases h : i < a.length
  · have d : decide ((i : Int) < (a.length : Int)) = true := by simpa using h
    have h2 : b[i]? = some (b[i]'(by omega)) := List.getElem?_eq_getElem _
    simp only [d, cond_true, idx_nat, List.getElem?_eq_getElem h, h2, Option.bind_some, dif_pos h, wi64_succ (show i < 1000000000 by omega)]
    by_cases e : a[i] = b[i]'(by omega)
    · simp [e]
    · have : (a[i] == b[i]'(by omega)) = false := beq_eq_false_iff_ne.2 e
      simp only [this, Bool.not_false, cond_true, if_neg e]
  · have d : decide ((i : Int) < (a.length : Int)) = false := by simp; omega
    simp only [d, cond_false, dif_neg h]

theorem len_ne {α : Type} [DecidableEq α] {a b : List α} (h : a.length ≠ b.length) : decide (a = b) = false := by
  simp only [decide_eq_false_iff_not]; intro e; exact h (by rw [e])

theorem eqNeeds2 (a b : List Need) (hb : a.length < 1000000) : g_R12_SameNeeds a b = some (decide (a = b)) := by
  unfold g_R12_SameNeeds
  rw [cbne]
  split
  · exact eq_loop (by omega) hb fun i hi => by unfold g_R12_SameNeeds_l1; exact eq_step (by omega) hb i hi
  · rw [len_ne (by omega)]

/-! ### find, elements, onto -/
theorem map_loop {r : Road} (hl : r.steps.length < 1000000) {step : Int × List Int → Option ((Int × List Int) ⊕ List Int)}
    (h : ∀ (i : Int) (o : List Int), step (i, o) = bif decide (i < (r.steps.length : Int)) then (idx r.steps i).bind fun y => (appI o [y.elem]).bind fun z => some (.inl (wi64 (i + 1), z)) else some (.inr o)) : loopR step (0, []) = some (r.steps.map (·.elem)) := by
  obtain ⟨b, h1, h2⟩ := loop_st (l := r.steps) (step := step) (Post := fun b => b = r.steps.map (·.elem)) (fun i o => o = (r.steps.take i).map (·.elem)) (c := [])
    (fun c hc => ⟨c, by rw [h]; simp [dge], by rw [hc, List.take_length]⟩)
    (fun i a c ha hc => by
      have := ilt ha
      have hlen : c.length ≤ i := by rw [hc]; simp; omega
      refine .inr ⟨c ++ [a.elem], ?_, by rw [hc, take_map_succ ha]⟩
      rw [h]
      simp only [dlt ha, cond_true, idx_nat, ha, Option.bind_some]
      rw [appI_ok (by simp; omega)]
      simp only [Option.bind_some, wi64_succ (show i < 1000000000 by omega)])
    (by simp)
  rw [h1, h2]

theorem Elems2_eq (r : Road) (hl : r.steps.length < 1000000) : g_R12_Elems r = some (r.steps.map (·.elem)) := map_loop hl fun _ _ => rfl

end Go.E
/- Plain Lean: the roads of a signal: the document's search and the program's are one. No condition. -/
namespace Go.E
open Go

def mkR (s to fin : Int) (st : List Step) (nd : List Need) : Road := ⟨s, to, fin, st, nd, [], [], [], false⟩

def addN (nd : List Need) (e pos : Int) : List Need := if pos = 0 then nd else nd ++ [⟨e, pos⟩]

/-- The roads that go on from the steps st into x. -/
def onF (p : Plan) (s : Int) : Nat → List Step → List Need → Port → List Int → List Road
  | 0, _, _, _, _ => []
  | k + 1, st, nd, x, met => if x.elem ∈ met ∨ st.length = 12 then [] else if kindP p x.elem = 4 then [mkR s (-1) 2 (st ++ [⟨x.elem, x.fin, -1⟩]) nd] else
    (outsP p x.elem x.fin).flatMap fun w => if 0 ≤ readsP p ⟨x.elem, w.out⟩ then [mkR s (readsP p ⟨x.elem, w.out⟩) 1 (st ++ [⟨x.elem, x.fin, w.out⟩]) (addN nd x.elem w.pos)] else match nextP p ⟨x.elem, w.out⟩ with
      | none => [mkR s (-1) 3 (st ++ [⟨x.elem, x.fin, w.out⟩]) (addN nd x.elem w.pos)]
      | some y => onF p s k (st ++ [⟨x.elem, x.fin, w.out⟩]) (addN nd x.elem w.pos) y (met ++ [x.elem])

/-- What one way gives. -/
def wayR (p : Plan) (s : Int) (k : Nat) (st : List Step) (nd : List Need) (x : Port) (met : List Int) (w : Way) : List Road :=
  if 0 ≤ readsP p ⟨x.elem, w.out⟩ then [mkR s (readsP p ⟨x.elem, w.out⟩) 1 (st ++ [⟨x.elem, x.fin, w.out⟩]) (addN nd x.elem w.pos)] else match nextP p ⟨x.elem, w.out⟩ with
    | none => [mkR s (-1) 3 (st ++ [⟨x.elem, x.fin, w.out⟩]) (addN nd x.elem w.pos)]
    | some y => onF p s k (st ++ [⟨x.elem, x.fin, w.out⟩]) (addN nd x.elem w.pos) y (met ++ [x.elem])

theorem onF_succ (p : Plan) (s : Int) (k : Nat) (st : List Step) (nd : List Need) (x : Port) (met : List Int) :
    onF p s (k + 1) st nd x met = if x.elem ∈ met ∨ st.length = 12 then [] else if kindP p x.elem = 4 then [mkR s (-1) 2 (st ++ [⟨x.elem, x.fin, -1⟩]) nd] else (outsP p x.elem x.fin).flatMap (wayR p s k st nd x met) := rfl

theorem wayR_len (p : Plan) (s : Int) (k : Nat) (st : List Step) (nd : List Need) (x : Port) (met : List Int) (w : Way) (ih : ∀ st nd x met, (onF p s k st nd x met).length ≤ 2 ^ k) : (wayR p s k st nd x met w).length ≤ 2 ^ k := by
  have h1 : 1 ≤ 2 ^ k := Nat.one_le_two_pow
  unfold wayR
  split
  · simp; omega
  · split
    · simp; omega
    · exact ih _ _ _ _

theorem flat_lenB {α β : Type} (f : α → List β) (b : Nat) : ∀ l : List α, (∀ a ∈ l, (f a).length ≤ b) → (l.flatMap f).length ≤ l.length * b
  | [], _ => by simp
  | a :: l, h => by
    have h1 := h a (by simp)
    have h2 := flat_lenB f b l fun x hx => h x (by simp [hx])
    simp only [List.flatMap_cons, List.length_append, List.length_cons, Nat.add_mul]
    omega

theorem onF_len (p : Plan) (s : Int) : ∀ (k : Nat) (st : List Step) (nd : List Need) (x : Port) (met : List Int), (onF p s k st nd x met).length ≤ 2 ^ k
  | 0, _, _, _, _ => by simp [onF]
  | k + 1, st, nd, x, met => by
    have h1 : 1 ≤ 2 ^ (k + 1) := Nat.one_le_two_pow
    rw [onF_succ]
    split
    · simp
    · split
      · simp; omega
      · have h2 := flat_lenB (wayR p s k st nd x met) (2 ^ k) (outsP p x.elem x.fin) fun w _ => wayR_len p s k st nd x met w (onF_len p s k)
        have h3 := outsP_len p x.elem x.fin
        have h4 : (outsP p x.elem x.fin).length * 2 ^ k ≤ 2 * 2 ^ k := Nat.mul_le_mul_right _ h3
        rw [Nat.pow_succ]; omega

/-! ### the document's search -/
theorem In_eq (l : List Int) (hl : l.length < 1000000) (x : Int) : g_R6_In l x = some (decide (x ∈ l)) := by
  unfold g_R6_In
  obtain ⟨b, h1, h2⟩ := loop_ix (l := l) (step := g_R6_In_l1 l x) (Post := fun b => b = decide (x ∈ l)) (fun _ y => y ≠ x) (fun good => ⟨false, by simp [g_R6_In_l1], by
      symm; rw [decide_eq_false_iff_not]; intro hm
      obtain ⟨i, hi⟩ := List.getElem?_of_mem hm
      exact good i x hi rfl⟩) (fun i a ha _ => by
      have := ilt ha
      by_cases e : a = x
      · exact .inl ⟨true, by simp only [g_R6_In_l1, dlt ha, cond_true, idx_nat, ha, Option.bind_some, e, beq_self_eq_true], by symm; rw [decide_eq_true_iff]; subst e; exact List.mem_of_getElem? ha⟩
      · have : (a == x) = false := beq_eq_false_iff_ne.2 e
        exact .inr ⟨by simp only [g_R6_In_l1, dlt ha, cond_true, idx_nat, ha, Option.bind_some, this, cond_false, wi64_succ (show i < 1000000000 by omega)], e⟩)
  rw [h1, h2]

theorem with_eq (r : Road) (s : Step) (pos fin to : Int) (h1 : r.steps.length ≤ 100) (h2 : r.needs.length ≤ 100) : g_R12_with r s pos fin to = some (mkR r.frm to fin (r.steps ++ [s]) (addN r.needs s.elem pos)) := by
  unfold g_R12_with
  rw [appI_ok (by simp; omega)]
  simp only [Option.bind_some, List.nil_append]
  rw [appI_ok (by simp; omega)]
  simp only [Option.bind_some]
  rw [appI_ok (by simp; omega)]
  simp only [Option.bind_some, List.nil_append, cbne]
  unfold addN mkR
  by_cases e : pos = 0
  · simp [e]
  · simp only [if_neg e]
    rw [appI_ok (by simp; omega)]
    simp

theorem addN_len (nd : List Need) (e pos : Int) : (addN nd e pos).length ≤ nd.length + 1 := by
  unfold addN; split <;> simp

/-- The document's search, with fuel. -/
noncomputable def onG (m : Nat) : Plan × Road × Port × List Int → Option (List Road) := recF (fun rc a => g_R12_on_b rc a.1 a.2.1 a.2.2.1 a.2.2.2) m

theorem on_eq {p : Plan} (hf : FewP p) (s : Int) : ∀ (k m : Nat) (to fin : Int) (st : List Step) (nd : List Need) (x : Port) (met : List Int), k ≤ m → st.length + k = 13 → nd.length ≤ st.length → met.length ≤ st.length + 1 → 1 ≤ k →
    onG m (p, (⟨s, to, fin, st, nd, [], [], [], false⟩ : Road), x, met) = some (onF p s k st nd x met)
  | 0, _, _, _, _, _, _, _, _, _, _, _, h => by omega
  | k + 1, 0, _, _, _, _, _, _, h, _, _, _, _ => by omega
  | k + 1, m + 1, to, fin, st, nd, x, met, hkm, hst, hnd, hmet, _ => by
    have hpow : 2 ^ k ≤ 2 ^ 12 := Nat.pow_le_pow_right (by decide) (by omega)
    show g_R12_on_b (onG m) p ⟨s, to, fin, st, nd, [], [], [], false⟩ x met = _
    unfold g_R12_on_b
    rw [In_eq met (by omega) x.elem, onF_succ]
    simp only [Option.bind_some]
    by_cases hm : x.elem ∈ met
    · simp [hm]
    · simp only [hm, decide_false, cond_false, false_or, Option.bind_some]
      by_cases hl : st.length = 12
      · have : (((st.length : Nat) : Int) == 12) = true := by rw [beq_iff_eq]; omega
        simp only [this, cond_true, if_pos hl]
      · have : (((st.length : Nat) : Int) == 12) = false := by rw [beq_eq_false_iff_ne]; omega
        simp only [this, cond_false, if_neg hl]
        rw [appI_ok (by simp; omega)]
        simp only [Option.bind_some, List.nil_append]
        rw [appI_ok (by simp; omega)]
        simp only [Option.bind_some, g_R6_Kind_eq, cbeq]
        by_cases hk : kindP p x.elem = 4
        · simp only [if_pos hk, with_eq (⟨s, to, fin, st, nd, [], [], [], false⟩ : Road) ⟨x.elem, x.fin, -1⟩ 0 2 (-1) (by simp only; omega) (by simp only; omega), Option.bind_some, addN, if_true]
        · simp only [if_neg hk, R6_Outs_eq, Option.bind_some]
          have hol := outsP_len p x.elem x.fin
          have wl : ∀ w, (wayR p s k st nd x met w).length ≤ 2 ^ k := fun w => wayR_len p s k st nd x met w (onF_len p s k)
          obtain ⟨b, h1, h2⟩ := loop_st (l := outsP p x.elem x.fin) (step := g_R12_on_b_l1 p ⟨s, to, fin, st, nd, [], [], [], false⟩ x (onG m) (met ++ [x.elem]) (outsP p x.elem x.fin))
            (Post := fun b => b = (outsP p x.elem x.fin).flatMap (wayR p s k st nd x met)) (fun i o => o = ((outsP p x.elem x.fin).take i).flatMap (wayR p s k st nd x met)) (c := [])
            (fun o ho => ⟨o, by simp [g_R12_on_b_l1], by rw [ho, List.take_length]⟩)
            (fun i w o hw ho => by
              have hi := ilt hw
              have hol2 : o.length ≤ 2 * 2 ^ k := by
                rw [ho]
                have h5 := flat_lenB (wayR p s k st nd x met) (2 ^ k) ((outsP p x.elem x.fin).take i) fun w _ => wl w
                have h6 : ((outsP p x.elem x.fin).take i).length * 2 ^ k ≤ 2 * 2 ^ k := Nat.mul_le_mul_right _ (by rw [List.length_take]; omega)
                omega
              have hw2 := wl w
              refine .inr ⟨o ++ wayR p s k st nd x met w, ?_, by rw [ho, List.take_add_one, hw]; simp⟩
              have hb : o.length + (wayR p s k st nd x met w).length ≤ 4294967296 := by omega
              simp only [g_R12_on_b_l1, dlt hw, cond_true, idx_nat, hw, Option.bind_some, g_R6_Reads_eq p (show p.signals.length < 1000000 by have := hf.signals; omega)]
              unfold wayR at hb ⊢
              by_cases hr : 0 ≤ readsP p ⟨x.elem, w.out⟩
              · rw [if_pos hr] at hb ⊢
                simp only [hr, decide_true, cond_true, with_eq (⟨s, to, fin, st, nd, [], [], [], false⟩ : Road) ⟨x.elem, x.fin, w.out⟩ w.pos 1 (readsP p ⟨x.elem, w.out⟩) (by simp only; omega) (by simp only; omega), Option.bind_some]
                rw [appI_ok hb]
                simp only [Option.bind_some, wi64_succ (show i < 1000000000 by omega)]
              · rw [if_neg hr] at hb ⊢
                simp only [hr, decide_false, cond_false, g_R6_Next_eq p (by have := hf.joins; omega), Option.bind_some]
                cases hnx : nextP p ⟨x.elem, w.out⟩ with
                | none =>
                  rw [hnx] at hb
                  simp only [Option.isSome_none, Bool.not_false, cond_true, with_eq (⟨s, to, fin, st, nd, [], [], [], false⟩ : Road) ⟨x.elem, x.fin, w.out⟩ w.pos 3 (-1) (by simp only; omega) (by simp only; omega), Option.bind_some]
                  rw [appI_ok hb]
                  simp only [Option.bind_some, wi64_succ (show i < 1000000000 by omega)]
                | some y =>
                  rw [hnx] at hb
                  simp only at hb
                  have hal := addN_len nd x.elem w.pos
                  have hrec := on_eq hf s k m (-1) 0 (st ++ [⟨x.elem, x.fin, w.out⟩]) (addN nd x.elem w.pos) y (met ++ [x.elem]) (by omega) (by simp; omega) (by simp; omega) (by simp; omega) (by omega)
                  simp only [Option.isSome_some, Option.getD_some, Bool.not_true, cond_false, with_eq (⟨s, to, fin, st, nd, [], [], [], false⟩ : Road) ⟨x.elem, x.fin, w.out⟩ w.pos 0 (-1) (by simp only; omega) (by simp only; omega), Option.bind_some]
                  unfold mkR
                  rw [hrec]
                  simp only [Option.bind_some]
                  rw [appI_ok hb]
                  simp only [Option.bind_some, wi64_succ (show i < 1000000000 by omega)])
            (by simp)
          rw [show (0 : Int) = ((0 : Nat) : Int) from rfl] at *
          rw [h1, h2]

/-- The roads of a signal. -/
def ofF (p : Plan) (s : Int) : List Road := match idx p.signals s with
  | none => []
  | some a => match nextP p a.at_ with
    | none => []
    | some y => onF p s 13 [] [] y [a.at_.elem]

theorem At_eq (p : Plan) (s : Int) : g_R6_At p s = some (match idx p.signals s with | none => (⟨0, 0⟩, false) | some a => (a.at_, true)) := by
  unfold g_R6_At
  by_cases h1 : s < 0
  · simp [h1, idx_none (.inl h1)]
  · by_cases h2 : (p.signals.length : Int) ≤ s
    · simp [h1, h2, idx_none (.inr h2)]
    · obtain ⟨a, ha⟩ := idx_of (l := p.signals) (n := s) (by omega) (by omega)
      simp [h1, h2, ha]

theorem Of_eq {p : Plan} (hf : FewP p) (s : Int) : g_R12_Of p s = some (ofF p s) := by
  unfold g_R12_Of ofF
  rw [At_eq]
  cases idx p.signals s with
  | none => rfl
  | some a =>
    simp only [Option.bind_some, Bool.not_true, cond_false, g_R6_Next_eq p (by have := hf.joins; omega)]
    cases nextP p a.at_ with
    | none => rfl
    | some y =>
      have := on_eq hf s 13 1000 0 0 [] [] y [a.at_.elem] (by omega) rfl (by simp) (by simp) (by omega)
      simp only [Option.isSome_some, Option.getD_some, Bool.not_true, cond_false]
      show (onG 1000 _).bind _ = _
      rw [this]; rfl

end Go.E
/- Plain Lean: the program's search for roads gives what the document's does. No condition. -/
namespace Go.E
open Go

section
variable {p : Plan} {n : Net}

/-! ### the program's search: what comes of a state -/
theorem wl_snoc {α : Type} (l : List α) (x : α) (hl : l.length < 1000000) : wi64 (((l ++ [x]).length : Int) - 1) = (l.length : Int) := by
  have : (((l ++ [x]).length : Int) - 1) = (l.length : Int) := by simp
  rw [this, wi64_id] <;> omega

theorem idx_sn {α : Type} {l : List α} {m : Nat} (x : α) (h : l.length = m) : idx (l ++ [x]) (m : Int) = some x := by
  rw [idx_nat]; subst h; simp

theorem slO_nil {α : Type} {l : List α} (h : l ≠ []) (a b : Int) : slO l a b = slI l a b := by
  cases l with
  | nil => exact absurd rfl h
  | cons x l => rfl

theorem slO_at {α : Type} {l : List α} {m : Nat} (x : α) (h : l.length = m) : slO (l ++ [x]) 0 (m : Int) = some l := by
  subst h
  rw [slO_nil (by simp)]
  unfold slI
  rw [if_pos ⟨by omega, by omega, by simp; omega⟩]; simp

end
end Go.E
/- Plain Lean: whether something is a road: the program's answer and the document's are one. No condition. -/
namespace Go.E
open Go

theorem index_loop {α : Type} {l : List α} {f : α → Bool} (hl : l.length < 1000000) {step : Int → Option (Int ⊕ Int)}
    (h0 : step (l.length : Int) = some (.inr (-1))) (h : ∀ (i : Nat) a, l[i]? = some a → step (i : Int) = if f a = true then some (.inr (i : Int)) else some (.inl ((i + 1 : Nat) : Int))) :
    ∃ t, loopR step 0 = some t ∧ ((t = -1 ∧ l.find? f = none) ∨ ∃ a, 0 ≤ t ∧ l.find? f = some a ∧ idx l t = some a) := by
  have key : ∀ (r : List α) (i : Nat), l.drop i = r → i ≤ l.length → ∃ t, loopR step (i : Int) = some t ∧ ((t = -1 ∧ r.find? f = none) ∨ ∃ a, 0 ≤ t ∧ r.find? f = some a ∧ idx l t = some a) := by
    intro r
    induction r with
    | nil =>
      intro i hd hi
      have : i = l.length := by have := congrArg List.length hd; simp at this; omega
      subst this
      exact ⟨-1, loopR_inr h0, .inl ⟨rfl, rfl⟩⟩
    | cons a r ih =>
      intro i hd hi
      have hlt : i < l.length := by have := congrArg List.length hd; simp at this; omega
      have ha : l[i]? = some a := by
        have : (l.drop i)[0]? = some a := by rw [hd]; rfl
        simpa using this
      have hr : l.drop (i + 1) = r := by
        have : (l.drop i).drop 1 = r := by rw [hd]; rfl
        rwa [List.drop_drop] at this
      by_cases c : f a = true
      · exact ⟨i, loopR_inr (by rw [h i a ha, if_pos c]), .inr ⟨a, by omega, by simp [c], by rw [idx_nat, ha]⟩⟩
      · obtain ⟨t, h1, h2⟩ := ih (i + 1) hr (by omega)
        refine ⟨t, by rw [loopR_inl (by rw [h i a ha, if_neg c]), h1], ?_⟩
        simpa [List.find?_cons, c] using h2
  exact key l 0 rfl (Nat.zero_le _)

def wayF (l : List Way) (o : Int) : Option Way := l.find? fun w => w.out == o

/-- The needs of steps that follow from a port on, if they may follow. -/
def stepsF (p : Plan) (a : Int) : Option Port → List Step → List Need → List Step → Option (List Need)
  | _, _, nd, [] => some nd
  | none, _, _, _ :: _ => none
  | some x, pv, nd, s :: r => if s.elem ≠ x.elem ∨ s.in_ ≠ x.fin ∨ s.elem = a ∨ s.elem ∈ pv.map (·.elem) then none else if kindP p s.elem = 4 then (if r = [] ∧ s.out = -1 then some nd else none) else match wayF (outsP p s.elem s.in_) s.out with
    | none => none
    | some w => if r ≠ [] ∧ 0 ≤ readsP p ⟨s.elem, s.out⟩ then none else stepsF p a (nextP p ⟨s.elem, s.out⟩) (pv ++ [s]) (addN nd s.elem w.pos) r

def tailF (p : Plan) (fin to : Int) (l : Step) : Bool :=
  if kindP p l.elem = 4 then decide (fin = 2 ∧ to = -1) else if 0 ≤ readsP p ⟨l.elem, l.out⟩ then decide (fin = 1 ∧ to = readsP p ⟨l.elem, l.out⟩) else (nextP p ⟨l.elem, l.out⟩).isNone && decide (fin = 3 ∧ to = -1)

/-- Is it a road (but for its flank)? -/
def isF (p : Plan) (r : Road) : Bool := match idx p.signals r.frm with
  | none => false
  | some sg => if r.steps.length < 1 ∨ 12 < r.steps.length then false else match stepsF p sg.at_.elem (nextP p sg.at_) [] [] r.steps with
    | none => false
    | some nd => match r.steps.getLast? with
      | none => false
      | some l => tailF p r.fin r.to l && decide (r.needs = nd)

theorem stepsF_len {p : Plan} {a : Int} : ∀ {r : List Step} {x : Option Port} {pv : List Step} {nd nd' : List Need}, stepsF p a x pv nd r = some nd' → nd'.length ≤ nd.length + r.length
  | [], x, pv, nd, nd', h => by
    have : nd = nd' := by cases x <;> simpa [stepsF] using h
    subst this; simp
  | s :: r, none, pv, nd, nd', h => by simp [stepsF] at h
  | s :: r, some x, pv, nd, nd', h => by
    unfold stepsF at h
    split at h
    · cases h
    · split at h
      · split at h
        · cases h; simp
        · cases h
      · split at h
        · cases h
        · split at h
          · cases h
          · have h1 := stepsF_len h
            rename_i w _ _
            have h2 := addN_len nd s.elem w.pos
            simp only [List.length_cons]; omega

section
variable {p : Plan} {n : Net}

theorem take_slI {α : Type} (l : List α) (i : Nat) (h : i ≤ l.length) : slI l 0 (i : Int) = some (l.take i) := by
  unfold slI
  rw [if_pos ⟨by omega, by omega, by omega⟩]; simp

/-! ### the document's test -/
end
end Go.E
/- Plain Lean: whether something is a road, as the document says; the roads of a signal are roads, and none is told twice. No condition. -/
namespace Go.E
open Go

theorem outs_dist (p : Plan) (e i : Int) : (outsP p e i).Pairwise (fun a b => a.out ≠ b.out) := by
  unfold outsP
  repeat' split
  all_goals simp

theorem wayF_mem : ∀ {l : List Way} {w : Way}, l.Pairwise (fun a b => a.out ≠ b.out) → w ∈ l → wayF l w.out = some w
  | a :: l, w, hp, hm => by
    rw [List.pairwise_cons] at hp
    unfold wayF
    rw [List.find?_cons]
    rcases List.mem_cons.1 hm with rfl | hm
    · simp
    · have := hp.1 w hm
      have e : (a.out == w.out) = false := beq_eq_false_iff_ne.2 this
      simp only [e]
      exact wayF_mem hp.2 hm

section
variable {p : Plan} {n : Net}

/-! ### the roads of a signal are roads -/
/-- A road that goes on from steps. -/
structure OnR (p : Plan) (a s : Int) (x : Port) (st : List Step) (nd : List Need) (r : Road) (t : List Step) : Prop where
  frm : r.frm = s
  guards : r.guards = []
  zone : r.zone = []
  holds : r.holds = []
  bare : r.bare = false
  steps : r.steps = st ++ t
  ne : t ≠ []
  len : r.steps.length ≤ 12
  all : stepsF p a (some x) st nd t = some r.needs
  tail : ∀ l, t.getLast? = some l → tailF p r.fin r.to l = true

theorem onF_road (s a : Int) : ∀ (k : Nat) (st : List Step) (nd : List Need) (x : Port) (r : Road), st.length + k = 13 → r ∈ onF p s k st nd x (a :: st.map (·.elem)) → ∃ t, OnR p a s x st nd r t ∧ ∃ u t', t = u :: t' ∧ u.elem = x.elem ∧ u.in_ = x.fin
  | 0, st, nd, x, r, hk, hr => by simp [onF] at hr
  | k + 1, st, nd, x, r, hk, hr => by
    rw [onF_succ] at hr
    by_cases hm : x.elem ∈ a :: st.map (·.elem) ∨ st.length = 12
    · rw [if_pos hm] at hr; simp at hr
    · rw [if_neg hm] at hr
      have hm1 : x.elem ∉ a :: st.map (·.elem) := fun h => hm (.inl h)
      have hm2 : ¬ (x.elem ≠ x.elem ∨ x.fin ≠ x.fin ∨ x.elem = a ∨ x.elem ∈ st.map (·.elem)) := by
        rintro (h1 | h1 | h1 | h1)
        · exact h1 rfl
        · exact h1 rfl
        · exact hm1 (by rw [h1]; simp)
        · exact hm1 (List.mem_cons_of_mem _ h1)
      have hlen : st.length < 12 := by
        have : st.length ≠ 12 := fun h => hm (.inr h)
        omega
      by_cases k4 : kindP p x.elem = 4
      · rw [if_pos k4] at hr
        simp at hr
        subst hr
        refine ⟨[⟨x.elem, x.fin, -1⟩], ⟨rfl, rfl, rfl, rfl, rfl, rfl, by simp, by simp [mkR]; omega, ?_, ?_⟩, _, _, rfl, rfl, rfl⟩
        · simp only [stepsF, if_neg hm2, if_pos k4, mkR, true_and, if_true]
        · intro l hl
          simp at hl
          subst hl
          simp [tailF, k4, mkR]
      · rw [if_neg k4] at hr
        obtain ⟨w, hw, hr⟩ := List.mem_flatMap.1 hr
        have hway := wayF_mem (outs_dist p x.elem x.fin) hw
        unfold wayR at hr
        by_cases hrd : 0 ≤ readsP p ⟨x.elem, w.out⟩
        · rw [if_pos hrd] at hr
          simp at hr
          subst hr
          refine ⟨[⟨x.elem, x.fin, w.out⟩], ⟨rfl, rfl, rfl, rfl, rfl, rfl, by simp, by simp [mkR]; omega, ?_, ?_⟩, _, _, rfl, rfl, rfl⟩
          · unfold stepsF; rw [if_neg hm2, if_neg k4, hway]; simp [stepsF, mkR]
          · intro l hl
            simp at hl
            subst hl
            simp [tailF, k4, mkR, hrd]
        · rw [if_neg hrd] at hr
          cases hnx : nextP p ⟨x.elem, w.out⟩ with
          | none =>
            rw [hnx] at hr
            simp at hr
            subst hr
            refine ⟨[⟨x.elem, x.fin, w.out⟩], ⟨rfl, rfl, rfl, rfl, rfl, rfl, by simp, by simp [mkR]; omega, ?_, ?_⟩, _, _, rfl, rfl, rfl⟩
            · unfold stepsF; rw [if_neg hm2, if_neg k4, hway]; simp [stepsF, mkR]
            · intro l hl
              simp at hl
              subst hl
              simp [tailF, k4, mkR, hrd, hnx]
          | some y =>
            rw [hnx] at hr
            have hmm : a :: st.map (·.elem) ++ [x.elem] = a :: (st ++ [(⟨x.elem, x.fin, w.out⟩ : Step)]).map (·.elem) := by simp
            simp only at hr
            rw [hmm] at hr
            obtain ⟨t, ht, u, t', htu, -, -⟩ := onF_road s a k (st ++ [⟨x.elem, x.fin, w.out⟩]) (addN nd x.elem w.pos) y r (by simp; omega) hr
            refine ⟨⟨x.elem, x.fin, w.out⟩ :: t, ⟨ht.frm, ht.guards, ht.zone, ht.holds, ht.bare, by rw [ht.steps]; simp, by simp, ht.len, ?_, ?_⟩, _, _, rfl, rfl, rfl⟩
            · unfold stepsF
              rw [if_neg hm2, if_neg k4, hway]
              dsimp only
              rw [if_neg (fun h => hrd h.2), hnx]
              exact ht.all
            · intro l hl
              refine ht.tail l ?_
              rw [htu] at hl ⊢
              rwa [List.getLast?_cons_cons] at hl

theorem ofF_road {s : Int} {r : Road} (h : r ∈ ofF p s) : isF p r = true ∧ r.frm = s ∧ r.guards = [] ∧ r.zone = [] ∧ r.holds = [] ∧ r.bare = false ∧ r.steps.length ≤ 12 ∧ 1 ≤ r.steps.length ∧ r.needs.length ≤ 12 := by
  unfold ofF at h
  cases hi : idx p.signals s with
  | none => rw [hi] at h; simp at h
  | some sg =>
    rw [hi] at h
    simp only at h
    cases hx : nextP p sg.at_ with
    | none => rw [hx] at h; simp at h
    | some y =>
      rw [hx] at h
      simp only at h
      obtain ⟨t, ht, -⟩ := onF_road s sg.at_.elem 13 [] [] y r rfl (by simpa using h)
      have hst : r.steps = t := by rw [ht.steps]; rfl
      have hlen : 1 ≤ r.steps.length := by
        rw [hst]
        exact List.length_pos_iff.2 ht.ne
      have hl2 := ht.len
      have hnl := stepsF_len ht.all
      rw [← hst] at hnl
      simp only [List.length_nil] at hnl
      refine ⟨?_, ht.frm, ht.guards, ht.zone, ht.holds, ht.bare, ht.len, hlen, by omega⟩
      unfold isF
      rw [ht.frm, hi]
      simp only
      rw [if_neg (by omega), hx, hst, ht.all]
      obtain ⟨l, hl⟩ : ∃ l, t.getLast? = some l := by
        rw [List.getLast?_eq_getElem?]
        rw [hst] at hlen
        exact ⟨_, List.getElem?_eq_getElem (by omega)⟩
      simp only [hl, ht.tail l hl, decide_true, Bool.and_true]

/-! ### none is told twice -/
end
end Go.E
/- Plain Lean: RoadOfs, RoadAlls, RoadIsOne, RoadTurned and RoadEach answer true, for every argument. No condition. -/
namespace Go.E
open Go

theorem mod_ok {a n : Int} (ha : 0 ≤ a) (hn : 0 < n) : ∃ r, modI a n = some r ∧ 0 ≤ r ∧ r < n := by
  unfold modI
  rw [if_neg (by omega)]
  exact ⟨_, rfl, Int.tmod_nonneg _ ha, by rw [Int.tmod_eq_emod_of_nonneg ha]; exact Int.emod_lt_of_pos _ hn⟩

theorem u8w {n : Int} (h : (Lit.int .u8 n).wf = true) : 0 ≤ n ∧ n ≤ 255 ∧ wi64 n = n := by
  have : 0 ≤ n ∧ n ≤ 255 := by simpa [Lit.wf, IntKind.min, IntKind.max, IntKind.signed, IntKind.bits] using h
  exact ⟨this.1, this.2, by rw [wi64_id] <;> omega⟩

section
variable {p : Plan} {n : Net}

theorem ofF_len (s : Int) : (ofF p s).length ≤ 2 ^ 13 := by
  unfold ofF
  split
  · simp
  · split
    · simp
    · exact onF_len p s 13 _ _ _ _

/-- All roads up to a signal. -/
def preF (p : Plan) (i : Nat) : List Road := (List.range i).flatMap fun (s : Nat) => ofF p (s : Int)

def roadsF (p : Plan) : List Road := preF p p.signals.length

theorem preF_succ (i : Nat) : preF p (i + 1) = preF p i ++ ofF p (i : Int) := by
  unfold preF
  rw [List.range_succ, List.flatMap_append]; simp

theorem preF_mem {i : Nat} {r : Road} (h : r ∈ preF p i) : ∃ s : Int, r ∈ ofF p s := by
  obtain ⟨s, _, hs⟩ := List.mem_flatMap.1 h
  exact ⟨_, hs⟩

theorem preF_mono {i : Nat} : ∀ {j : Nat}, i ≤ j → (preF p i).length ≤ (preF p j).length
  | 0, h => by have : i = 0 := by omega
               subst this; exact Nat.le_refl _
  | j + 1, h => by
    by_cases e : i = j + 1
    · subst e; exact Nat.le_refl _
    · have := preF_mono (i := i) (j := j) (by omega)
      rw [preF_succ, List.length_append]; omega

def allR (p : Plan) : List Road × Int := if 64 < (roadsF p).length then ([], 3) else (roadsF p, 0)

theorem R12_All_eq (hv : Valid p) : g_R12_All p = some (allR p) := by
  have hs := hv.ns
  unfold g_R12_All
  obtain ⟨b, h1, h2⟩ := loop_st (l := p.signals) (step := g_R12_All_l1 p) (Post := fun b => b = allR p) (fun i o => o = preF p i ∧ o.length ≤ 64) (c := [])
    (fun o ho => by
      refine ⟨allR p, ?_, rfl⟩
      unfold allR roadsF
      rw [← ho.1, if_neg (by omega)]
      simp [g_R12_All_l1])
    (fun i a o ha ho => by
      have hi := ilt ha
      have h2 := ofF_len (p := p) (i : Int)
      have hb : o.length + (ofF p (i : Int)).length ≤ 4294967296 := by have := ho.2; omega
      have hlen : (o ++ ofF p (i : Int)) = preF p (i + 1) := by rw [preF_succ, ho.1]
      by_cases c : 64 < (o ++ ofF p (i : Int)).length
      · refine .inl ⟨([], 3), ?_, ?_⟩
        · have d : decide (64 < ((o ++ ofF p (i : Int)).length : Int)) = true := by simp only [decide_eq_true_eq]; omega
          simp only [g_R12_All_l1, dlt ha, cond_true, Of_eq hv.few, Option.bind_some, appI_ok hb, d]
        · unfold allR roadsF
          have := preF_mono (p := p) (show i + 1 ≤ p.signals.length by omega)
          rw [hlen] at c
          rw [if_pos (by omega)]
      · refine .inr ⟨o ++ ofF p (i : Int), ?_, hlen, by omega⟩
        have d : decide (64 < ((o ++ ofF p (i : Int)).length : Int)) = false := by simp only [decide_eq_false_iff_not]; omega
        simp only [g_R12_All_l1, dlt ha, cond_true, Of_eq hv.few, Option.bind_some, appI_ok hb, d, cond_false, wi64_succ (show i < 1000000000 by omega)])
    ⟨by simp [preF], by simp⟩
  rw [h1, h2]

theorem allR_mem {r : Road} (h : r ∈ (allR p).1) : ∃ s : Int, r ∈ ofF p s := by
  unfold allR at h
  split at h
  · simp at h
  · exact preF_mem h

end

end Go.E
/- Plain Lean: RoadRuns answers true, for every argument. No condition. -/
namespace Go.E
open Go

/-- The position of an element, as it is told. -/
def lieW (pos : List Int) (e : Int) : Int := (idx pos e).getD 0

section
variable {p : Plan} {n : Net}

/-! ### positions as they are needed -/
/-! ### the needs of steps -/
theorem kind_range {e : Int} (h : kindP p e ≠ 0) : 0 ≤ e ∧ e < p.elems.length := by
  unfold kindP at h
  cases hi : idx p.elems e with
  | none => rw [hi] at h; simp at h
  | some a => exact idx_len hi

end
end Go.E
/- Reach hands the keys of a map out in whatever order and sorts them: what it answers has no order in it; the example that the laws of sides look at. No condition. -/
namespace Go.E
open Go Go.Proofs

set_option maxRecDepth 100000
end Go.E
/- Plain Lean: the ports on the sides of a road, and what is its own: the program's answer and the document's are one (laws SidePorts, SideOwns). No condition. -/
namespace Go.E
open Go

theorem any_find {l : List Step} {e : Int} : decide (e ∈ l.map (·.elem)) = (l.find? fun s => s.elem == e).isSome := by
  induction l with
  | nil => simp
  | cons a l ih =>
    rw [List.find?_cons]
    by_cases c : a.elem = e
    · simp [c]
    · have : (a.elem == e) = false := beq_eq_false_iff_ne.2 c
      rw [this]
      simp only [List.map_cons, List.mem_cons, Ne.symm c, false_or]
      exact ih

theorem Own_eq (r : Road) (hl : r.steps.length < 1000000) (e : Int) : g_side_Own r e = some (decide (e ∈ r.steps.map (·.elem))) := by
  unfold g_side_Own
  obtain ⟨t, h1, h2⟩ := index_loop (l := r.steps) (f := fun s => s.elem == e) hl (step := g_side_Own_l1 r e) (by simp [g_side_Own_l1]) (fun i a ha => by
    have := ilt ha
    simp only [g_side_Own_l1, g_side_Own_1, dlt ha, cond_true, idx_nat, ha, Option.bind_some, wi64_succ (show i < 1000000000 by omega)]
    by_cases c : a.elem = e
    · simp [c]
    · have : (a.elem == e) = false := beq_eq_false_iff_ne.2 c
      simp [this])
  rw [h1, any_find]
  simp only [Option.bind_some, Option.some.injEq]
  rcases h2 with ⟨rfl, h2⟩ | ⟨a, h0, h2, _⟩
  · rw [h2]; rfl
  · rw [h2]; simp [h0]

/-! ### a loop that lays what each part gives behind what there is -/
theorem flat_loop {α β γ : Type} (B : Nat) {l : List α} (f : α → List β) (hf : ∀ a, (f a).length ≤ 4) (hl : l.length ≤ 100000) {step : Int × List β → Option (Int × List β ⊕ γ)} {fin : List β → γ}
    (h0 : ∀ o, step ((l.length : Int), o) = some (.inr (fin o))) (h1 : ∀ (i : Nat) a o, l[i]? = some a → o.length ≤ B + 400000 → step ((i : Int), o) = some (.inl (((i + 1 : Nat) : Int), o ++ f a))) (o : List β) (ho : o.length ≤ B) :
    loopR step ((0 : Int), o) = some (fin (o ++ l.flatMap f)) := by
  have hlen : ∀ i, ((l.take i).flatMap f).length ≤ i * 4 := by
    intro i
    induction i with
    | zero => simp
    | succ i ih =>
      rw [List.take_add_one, List.flatMap_append, List.length_append]
      cases h : l[i]? with
      | none => simp only [Option.toList_none, List.flatMap_nil, List.length_nil]; omega
      | some a =>
        have := hf a
        simp only [Option.toList_some, List.flatMap_cons, List.flatMap_nil, List.append_nil]
        omega
  obtain ⟨b, h2, rfl⟩ := loop_st (l := l) (step := step) (Post := fun b => b = fin (o ++ l.flatMap f)) (fun i c => c = o ++ (l.take i).flatMap f) (c := o)
    (fun c hc => ⟨fin c, h0 c, by rw [hc, List.take_length]⟩)
    (fun i a c ha hc => by
      have hi := ilt ha
      have := hlen i
      refine .inr ⟨c ++ f a, h1 i a c ha (by rw [hc, List.length_append]; omega), ?_⟩
      rw [hc, List.take_add_one, ha]
      simp only [Option.toList_some, List.flatMap_append, List.flatMap_cons, List.flatMap_nil, List.append_nil, List.append_assoc])
    (by simp)
  exact h2

/-! ### the side ports -/
section
variable {p : Plan} {n : Net}

/-- The ends by which a road may be met at a step. -/
def sideK (p : Plan) (s : Step) : List Int :=
  if kindP p s.elem = 2 then [wi64 (3 - (if s.out > s.in_ then s.out else s.in_))] else if kindP p s.elem = 3 then (if 1 < s.in_ then [0, 1] else [2, 3]) else []

/-- Those that are joined. -/
def joinK (p : Plan) (e : Int) (k : Int) : List Port := if (nextP p ⟨e, k⟩).isSome then [⟨e, k⟩] else []

def portsS (p : Plan) (s : Step) : List Port := (sideK p s).flatMap (joinK p s.elem)

def portsF (p : Plan) (l : List Step) : List Port := l.flatMap (portsS p)

theorem sideK_len (s : Step) : (sideK p s).length ≤ 2 := by
  unfold sideK
  split
  · simp
  · split
    · split <;> simp
    · simp

theorem joinK_len (e k : Int) : (joinK p e k).length ≤ 1 := by unfold joinK; split <;> simp

theorem portsS_len (s : Step) : (portsS p s).length ≤ 2 := by
  have := flat_lenB (joinK p s.elem) 1 (sideK p s) fun k _ => joinK_len s.elem k
  have := sideK_len (p := p) s
  unfold portsS
  omega

theorem portsF_len (l : List Step) : (portsF p l).length ≤ l.length * 2 := flat_lenB _ 2 l fun s _ => portsS_len s

theorem Ports_l2 (hn : NetOf p n) (s : Step) (c : Int × List Port) (ks : List Int) (hk : ks.length ≤ 10) (o : List Port) (ho : o.length ≤ 400000) :
    loopR (g_side_Ports_l2 n c s ks) (0, o) = some (.inl (wi64 (c.1 + 1), o ++ ks.flatMap (joinK p s.elem))) := by
  refine flat_loop 400000 (l := ks) (joinK p s.elem) (fun k => by have := joinK_len (p := p) s.elem k; omega) (by omega) (fin := fun o => (Sum.inl (wi64 (c.1 + 1), o) : (Int × List Port) ⊕ List Port)) (fun o => ?_) (fun i a o ha hb => ?_) o ho
  · simp only [g_side_Ports_l2, dge, cond_false]
  · have := ilt ha
    simp only [g_side_Ports_l2, dlt ha, cond_true, idx_nat, ha, Option.bind_some, net_Next hn, wi64_succ (show i < 1000000000 by omega)]
    unfold joinK
    cases (nextP p ⟨s.elem, a⟩).isSome with
    | true => simp [appI_ok (show o.length + [(⟨s.elem, a⟩ : Port)].length ≤ 4294967296 by simp; omega)]
    | false => simp

theorem Ports_eq (hn : NetOf p n) (r : Road) (hl : r.steps.length ≤ 1000) : g_side_Ports n r = some (portsF p r.steps) := by
  unfold g_side_Ports
  rw [show portsF p r.steps = ([] : List Port) ++ r.steps.flatMap (portsS p) from rfl]
  refine flat_loop 0 (l := r.steps) (portsS p) (fun s => by have := portsS_len (p := p) s; omega) (by omega) (fin := fun o => o) (fun o => ?_) (fun i s o ha hb => ?_) [] (by simp)
  · simp only [g_side_Ports_l1, dge, cond_false]
  · have hi := ilt ha
    simp only [g_side_Ports_l1, dlt ha, cond_true, idx_nat, ha, Option.bind_some, net_Kind hn]
    have e : (bif (kindP p s.elem == 2) then some [wi64 (3 - (if s.out > s.in_ then s.out else s.in_))] else bif (kindP p s.elem == 3) then bif decide (1 < s.in_) then some [0, 1] else some [2, 3] else some ([] : List Int) : Option (List Int)) = some (sideK p s) := by
      unfold sideK
      by_cases c2 : kindP p s.elem = 2
      · simp [c2]
      · have b2 : (kindP p s.elem == 2) = false := beq_eq_false_iff_ne.2 c2
        by_cases c3 : kindP p s.elem = 3
        · by_cases d : 1 < s.in_ <;> simp [b2, c2, c3, d]
        · have b3 : (kindP p s.elem == 3) = false := beq_eq_false_iff_ne.2 c3
          simp [b2, b3, c2, c3]
    rw [e]
    have hk := sideK_len (p := p) s
    simp only [Option.bind_some, Ports_l2 hn s ((i : Int), o) (sideK p s) (by omega) o (by omega), wi64_succ (show i < 1000000000 by omega)]
    rfl

/-! ### the document's -/
/-! ### the road that a number names -/
theorem L8_Road_eq (hv : Valid p) {k : Int} (hk : (Lit.int .u8 k).wf = true) : ∃ r b, g_L8_Road p k = some (r, b) ∧ (b = true → ∃ s, r ∈ ofF p s) := by
  obtain ⟨h0, h1, h2⟩ := u8w hk
  unfold g_L8_Road
  simp only [R12_All_eq hv, Option.bind_some]
  by_cases c : (allR p).2 = 0
  · have c' : ((allR p).2 != 0) = false := by simp [c]
    by_cases d : (allR p).1.length = 0
    · exact ⟨(⟨0, 0, 0, [], [], [], [], [], false⟩ : Road), false, by simp [c', d], by simp⟩
    · have d' : (((allR p).1.length : Int) == 0) = false := by simp only [beq_eq_false_iff_ne, ne_eq]; omega
      obtain ⟨m, hm, m0, m1⟩ := mod_ok h0 (show (0 : Int) < ((allR p).1.length : Int) by omega)
      have e3 : ∃ r, idx (allR p).1 m = some r := by
        obtain ⟨q, rfl⟩ : ∃ q : Nat, m = (q : Int) := ⟨m.toNat, by omega⟩
        exact ⟨_, by rw [idx_nat, List.getElem?_eq_getElem (by omega)]⟩
      obtain ⟨r, hr⟩ := e3
      have hmem : r ∈ (allR p).1 := by
        obtain ⟨q, rfl⟩ : ∃ q : Nat, m = (q : Int) := ⟨m.toNat, by omega⟩
        rw [idx_nat] at hr
        exact List.mem_of_getElem? hr
      exact ⟨r, true, by simp only [c', d', cond_false, Option.bind_some, h2, hm, hr], fun _ => allR_mem hmem⟩
  · have c' : ((allR p).2 != 0) = true := by simp [c]
    exact ⟨(⟨0, 0, 0, [], [], [], [], [], false⟩ : Road), false, by simp [c'], by simp⟩

theorem ofF_steps {s : Int} {r : Road} (h : r ∈ ofF p s) : r.steps.length ≤ 12 := (ofF_road h).2.2.2.2.2.2.1

end

end Go.E
/- Plain Lean: which ports lie on the sides of a road (law SideApart). No condition. -/
namespace Go.E
open Go

section
variable {p : Plan} {n : Net}

end
end Go.E
/- Plain Lean: what the sides of a road reach, told without an order (Arr, ZoneR): the program's answer. No condition. -/
namespace Go.E
open Go

/-! ### maps with one entry more -/
def seenB (vis : List (Port × Bool)) (x : Port) : Bool := (assoc vis x).getD false

theorem seenB_aput (vis : List (Port × Bool)) (x y : Port) : seenB (aput x true vis) y = true ↔ y = x ∨ seenB vis y = true := by
  unfold seenB
  rw [assoc_aput']
  by_cases e : y = x <;> simp [e]

theorem filter_less {α : Type} {P P' : α → Bool} (hpp : ∀ z, P' z = true → P z = true) : ∀ l : List α, (l.filter P').length ≤ (l.filter P).length ∧ ∀ x ∈ l, P x = true → P' x = false → (l.filter P').length + 1 ≤ (l.filter P).length
  | [] => ⟨Nat.le_refl _, by simp⟩
  | a :: l => by
    obtain ⟨h1, h2⟩ := filter_less hpp l
    rw [List.filter_cons, List.filter_cons]
    by_cases c : P' a = true
    · rw [if_pos c, if_pos (hpp a c)]
      simp only [List.length_cons]
      refine ⟨by omega, fun x hx hp hp' => ?_⟩
      rcases List.mem_cons.1 hx with rfl | hx
      · rw [c] at hp'; cases hp'
      · have := h2 x hx hp hp'; omega
    · rw [if_neg c]
      by_cases d : P a = true
      · rw [if_pos d]
        simp only [List.length_cons]
        exact ⟨by omega, fun x hx hp hp' => by omega⟩
      · rw [if_neg d]
        refine ⟨h1, fun x hx hp hp' => ?_⟩
        rcases List.mem_cons.1 hx with rfl | hx
        · exact absurd hp d
        · exact h2 x hx hp hp'

section
variable {p : Plan} {n : Net}

def shutP (p : Plan) (shut : List Bool) (x : Port) : Bool := decide (0 ≤ readsP p x) && (idx shut (readsP p x)).getD false

/-- The ports through which a train might come to a road's side. -/
inductive Arr (p : Plan) (pos : List Int) (shut : List Bool) (st : List Step) : Port → Prop
  | init {x y : Port} : x ∈ portsF p st → nextP p x = some y → Arr p pos shut st y
  | step {x y : Port} {o : Int} : Arr p pos shut st x → x.elem ∉ st.map (·.elem) → shutP p shut x = false → kindP p x.elem ≠ 4 → throughP p x.elem x.fin (lieW pos x.elem) = some o → nextP p ⟨x.elem, o⟩ = some y → Arr p pos shut st y

/-- The elements from which one might. -/
def ZoneR (p : Plan) (pos : List Int) (shut : List Bool) (st : List Step) (e : Int) : Prop :=
  ∃ x, Arr p pos shut st x ∧ x.elem = e ∧ e ∉ st.map (·.elem) ∧ shutP p shut x = false ∧ (kindP p e = 4 ∨ (throughP p e x.fin (lieW pos e)).isSome = true)

variable {pos : List Int} {shut : List Bool} {r : Road}

theorem Arr.from {st : List Step} {y : Port} (h : Arr p pos shut st y) : ∃ x, nextP p x = some y := by
  cases h with
  | init h1 h2 => exact ⟨_, h2⟩
  | step _ _ _ _ _ h2 => exact ⟨_, h2⟩

theorem has_range {x : Port} (h : hasP p x = true) : 0 ≤ x.elem ∧ x.elem < p.elems.length := by
  obtain ⟨h1, h2, h3⟩ := hasP_fin h
  refine kind_range fun e => ?_
  rw [e] at h3
  simp [endsF] at h3
  omega

def doneB (vis : List (Port × Bool)) (zone : List (Int × Bool)) (p : Plan) (y : Port) : Prop := seenB vis y = true ∨ (kindP p y.elem = 4 ∧ (assoc zone y.elem).isSome = true)

/-- Where a port leads that was looked at. -/
def fullB (p : Plan) (pos : List Int) (shut : List Bool) (st : List Step) (q : List Port) (vis : List (Port × Bool)) (zone : List (Int × Bool)) (x : Port) : Prop :=
  x.elem ∉ st.map (·.elem) → shutP p shut x = false → kindP p x.elem ≠ 4 ∧ ∀ o, throughP p x.elem x.fin (lieW pos x.elem) = some o → (assoc zone x.elem).isSome = true ∧ ∀ y, nextP p ⟨x.elem, o⟩ = some y → y ∈ q ∨ doneB vis zone p y

def unv (p : Plan) (vis : List (Port × Bool)) : Nat := ((portsP p).filter fun x => !seenB vis x).length

structure RI (p : Plan) (pos : List Int) (shut : List Bool) (st : List Step) (M k : Nat) (q : List Port) (vis : List (Port × Bool)) (zone : List (Int × Bool)) : Prop where
  arr : ∀ x ∈ q, Arr p pos shut st x
  full : ∀ x, seenB vis x = true → fullB p pos shut st q vis zone x
  init : ∀ x y, x ∈ portsF p st → nextP p x = some y → y ∈ q ∨ doneB vis zone p y
  zon : ∀ e, (assoc zone e).isSome = true → ZoneR p pos shut st e
  nodup : (zone.map (·.1)).Nodup
  len : zone.length ≤ k
  meas : k + q.length + 2 * unv p vis ≤ M

theorem RI.next {st : List Step} {M k : Nat} {x : Port} {q q' : List Port} {vis vis' : List (Port × Bool)} {zone zone' : List (Int × Bool)} (h : RI p pos shut st M k (x :: q) vis zone)
    (hq : ∀ y ∈ q, y ∈ q') (hq2 : ∀ y ∈ q', Arr p pos shut st y) (hv : ∀ y, seenB vis y = true → seenB vis' y = true) (hv2 : ∀ y, seenB vis' y = true → seenB vis y = true ∨ y = x)
    (hz : ∀ e, (assoc zone e).isSome = true → (assoc zone' e).isSome = true) (hz2 : ∀ e, (assoc zone' e).isSome = true → ZoneR p pos shut st e) (hz3 : (zone'.map (·.1)).Nodup) (hz4 : zone'.length ≤ zone.length + 1)
    (hx : doneB vis' zone' p x) (hf : seenB vis' x = true → seenB vis x = false → fullB p pos shut st q' vis' zone' x) (hm : q'.length + 2 * unv p vis' ≤ q.length + 2 * unv p vis) : RI p pos shut st M (k + 1) q' vis' zone' := by
  have keep : ∀ y, (y ∈ x :: q ∨ doneB vis zone p y) → y ∈ q' ∨ doneB vis' zone' p y := by
    rintro y (hy | hy | ⟨hy, hy2⟩)
    · rcases List.mem_cons.1 hy with rfl | hy
      · exact .inr hx
      · exact .inl (hq y hy)
    · exact .inr (.inl (hv y hy))
    · exact .inr (.inr ⟨hy, hz _ hy2⟩)
  refine ⟨hq2, fun y hy => ?_, fun a y ha hy => keep y (h.init a y ha hy), hz2, hz3, by have := h.len; omega, by have := h.meas; simp only [List.length_cons] at this; omega⟩
  have old : seenB vis y = true → fullB p pos shut st q' vis' zone' y := fun hy => fun h1 h2 => by
    obtain ⟨g1, g2⟩ := h.full y hy h1 h2
    exact ⟨g1, fun o ho => ⟨hz _ (g2 o ho).1, fun z hz' => keep z ((g2 o ho).2 z hz')⟩⟩
  rcases hv2 y hy with hy' | rfl
  · exact old hy'
  · cases c : seenB vis y with
    | true => exact old c
    | false => exact hf hy c

end
end Go.E
/- Plain Lean: the elements that Reach answers are those of ZoneR, ascending (laws SideShut, SideRuns). No condition. -/
namespace Go.E
open Go

section
variable {p : Plan} {n : Net} {pos : List Int} {shut : List Bool} {r : Road}

theorem unv_le {vis : List (Port × Bool)} (x : Port) : unv p (aput x true vis) ≤ unv p vis :=
  (filter_less (fun z hz => by
    cases hs : seenB vis z with
    | false => rfl
    | true =>
      have := (seenB_aput vis x z).2 (.inr hs)
      simp only [this, Bool.not_true] at hz
      cases hz) (portsP p)).1

theorem unv_lt {vis : List (Port × Bool)} {x : Port} (hx : x ∈ portsP p) (hv : seenB vis x = false) : unv p (aput x true vis) + 1 ≤ unv p vis :=
  (filter_less (fun z hz => by
    cases hs : seenB vis z with
    | false => rfl
    | true =>
      have := (seenB_aput vis x z).2 (.inr hs)
      simp only [this, Bool.not_true] at hz
      cases hz) (portsP p)).2 x hx (by simp [hv]) (by simp [(seenB_aput vis x x).2 (.inl rfl)])

/-- The ports behind the side ports. -/
def startQ (p : Plan) (l : List Port) : List Port := l.map fun x => (nextP p x).getD ⟨0, 0⟩

theorem ports_joined {l : List Step} {x : Port} (h : x ∈ portsF p l) : ∃ y, nextP p x = some y := by
  unfold portsF portsS at h
  obtain ⟨s, _, h⟩ := List.mem_flatMap.1 h
  obtain ⟨k, _, h⟩ := List.mem_flatMap.1 h
  unfold joinK at h
  split at h
  · rename_i hs
    simp at h
    subst h
    exact Option.isSome_iff_exists.1 hs
  · simp at h

/-! ### more signals shut -/
theorem shut_mono {a b : List Bool} (h : ∀ j : Nat, a[j]? = some true → b[j]? = some true) {x : Port} (hs : shutP p b x = false) : shutP p a x = false := by
  unfold shutP at *
  by_cases c : 0 ≤ readsP p x
  · obtain ⟨i, hi⟩ := Int.eq_ofNat_of_zero_le c
    rw [hi] at hs ⊢
    simp only [idx_nat, Int.natCast_nonneg, decide_true, Bool.true_and] at hs ⊢
    cases ha : a[i]? with
    | none => rfl
    | some v =>
      cases v with
      | false => rfl
      | true => rw [h i ha] at hs; cases hs
  · simp [c]

theorem Arr.mono {a b : List Bool} (h : ∀ j : Nat, a[j]? = some true → b[j]? = some true) {st : List Step} {x : Port} (hx : Arr p pos b st x) : Arr p pos a st x := by
  induction hx with
  | init h1 h2 => exact .init h1 h2
  | step h1 h2 h3 h4 h5 h6 ih => exact .step ih h2 (shut_mono h h3) h4 h5 h6

theorem ZoneR.mono {a b : List Bool} (h : ∀ j : Nat, a[j]? = some true → b[j]? = some true) {st : List Step} {e : Int} (hx : ZoneR p pos b st e) : ZoneR p pos a st e := by
  obtain ⟨x, h1, h2, h3, h4, h5⟩ := hx
  exact ⟨x, h1.mono h, h2, h3, shut_mono h h4, h5⟩

theorem ZoneR.range (hv : Valid p) {st : List Step} {e : Int} (h : ZoneR p pos shut st e) : 0 ≤ e ∧ e < p.elems.length := by
  obtain ⟨x, h1, rfl, _⟩ := h
  obtain ⟨w, hw⟩ := h1.from
  exact has_range (hv.join.next hw)

end
end Go.E
/- The example that the laws of flanks look at, reckoned by the kernel. No condition. -/
namespace Go.E
open Go Go.Proofs
set_option maxRecDepth 100000
theorem known9 : g_L9_known = some true := by kernel_rfl

end Go.E
/- Plain Lean: the flank of a road: how its search begins; a road without side ports (law FlankNone). No condition. -/
namespace Go.E
open Go

theorem contains_int (l : List Int) (hl : l.length < 1000000) (x : Int) : g_slices_Contains_int l x = some (decide (x ∈ l)) := by
  unfold g_slices_Contains_int g_slices_Index_int
  obtain ⟨t, h1, h2⟩ := index_loop (l := l) (f := fun a => x == a) hl (step := g_slices_Index_int_l1 l x) (by simp [g_slices_Index_int_l1]) (fun i a ha => by
    have := ilt ha
    simp only [g_slices_Index_int_l1, dlt ha, cond_true, idx_nat, ha, Option.bind_some, wi64_succ (show i < 1000000000 by omega)]
    cases hb : (x == a) <;> simp)
  rw [h1]
  simp only [Option.bind_some, Option.some.injEq]
  rcases h2 with ⟨rfl, h2⟩ | ⟨a, h0, h2, _⟩
  · have : x ∉ l := fun h => by have := List.find?_eq_none.1 h2 x h; simp at this
    simp [this]
  · have hm := List.mem_of_find?_eq_some h2
    have he := List.find?_some h2
    simp only [beq_iff_eq] at he
    subst he
    simp [h0, hm]

theorem contains_need (l : List Need) (hl : l.length < 1000000) (x : Need) : g_slices_Contains_apiNeed l x = some (decide (x ∈ l)) := by
  unfold g_slices_Contains_apiNeed g_slices_Index_apiNeed
  obtain ⟨t, h1, h2⟩ := index_loop (l := l) (f := fun a => x == a) hl (step := g_slices_Index_apiNeed_l1 l x) (by simp [g_slices_Index_apiNeed_l1]) (fun i a ha => by
    have := ilt ha
    simp only [g_slices_Index_apiNeed_l1, dlt ha, cond_true, idx_nat, ha, Option.bind_some, wi64_succ (show i < 1000000000 by omega)]
    cases hb : (x == a) <;> simp)
  rw [h1]
  simp only [Option.bind_some, Option.some.injEq]
  rcases h2 with ⟨rfl, h2⟩ | ⟨a, h0, h2, _⟩
  · have : x ∉ l := fun h => by have := List.find?_eq_none.1 h2 x h; simp at this
    simp [this]
  · have hm := List.mem_of_find?_eq_some h2
    have he := List.find?_some h2
    simp only [beq_iff_eq] at he
    subst he
    simp [h0, hm]

section
variable {p : Plan} {n : Net} {r : Road}

theorem flank_start (hv : Valid p) (hn : NetOf p n) (h1 : r.steps.length ≤ 12) (h2 : r.needs.length ≤ 1000) : g_flank_Of n r = loopR (g_flank_Of_l2 n r r.steps r.needs p) (false, [], [], [], [], (startQ p (portsF p r.steps)).reverse) := by
  unfold g_flank_Of
  have e1 : g_slices_Clone_apiStep r.steps = some r.steps := clone_eq _ (by omega)
  have e2 : g_slices_Clone_apiNeed r.needs = some r.needs := clone_eq _ (by omega)
  have e3 : g_net_Net_Plan n = some p := by unfold g_net_Net_Plan; rw [hn.plan, twin_eq p hv.few]; rfl
  simp only [e1, e2, e3, Option.bind_some, Ports_eq hn (⟨r.frm, r.to, r.fin, r.steps, r.needs, [], [], [], false⟩ : Road) (show r.steps.length ≤ 1000 by omega)]
  have hp := portsF_len (p := p) r.steps
  generalize hL : portsF p r.steps = L at hp
  have key : ∀ (k : Nat) (q : List Port), k ≤ L.length → q = (startQ p (L.drop k)).reverse → loopR (g_flank_Of_l1 n r r.steps r.needs p L) ((k : Int) - 1, q) = loopR (g_flank_Of_l2 n r r.steps r.needs p) (false, [], [], [], [], (startQ p L).reverse) := by
    intro k
    induction k with
    | zero =>
      intro q _ hq
      rw [List.drop_zero] at hq
      subst hq
      cases hr : loopR (g_flank_Of_l2 n r r.steps r.needs p) (false, [], [], [], [], (startQ p L).reverse) with
      | some b =>
        refine loopR_inr ?_
        have d : decide ((0 : Int) ≤ ((0 : Nat) : Int) - 1) = false := by decide
        simp only [g_flank_Of_l1, d, cond_false, hr, Option.map_some]
      | none =>
        rw [loopR_eq]
        have d : decide ((0 : Int) ≤ ((0 : Nat) : Int) - 1) = false := by decide
        simp only [g_flank_Of_l1, d, cond_false, hr, Option.map_none]
    | succ k ih =>
      intro q hk hq
      obtain ⟨x, hx⟩ : ∃ x, L[k]? = some x := ⟨_, List.getElem?_eq_getElem (by omega)⟩
      have hql : q.length ≤ 24 := by rw [hq]; unfold startQ; simp; omega
      have hd : L.drop k = x :: L.drop (k + 1) := by
        obtain ⟨h, e⟩ := List.getElem?_eq_some_iff.1 hx
        rw [List.drop_eq_getElem_cons h, e]
      rw [← ih (q ++ [(nextP p x).getD ⟨0, 0⟩]) (by omega) (by rw [hd, hq]; unfold startQ; simp)]
      refine loopR_inl ?_
      have d : decide ((0 : Int) ≤ (k : Int)) = true := decide_eq_true (by omega)
      have e : (((k + 1 : Nat) : Int) - 1) = (k : Int) := by omega
      have w : wi64 ((k : Int) - 1) = (k : Int) - 1 := by rw [wi64_id] <;> omega
      simp only [g_flank_Of_l1, d, cond_true, e, idx_nat, hx, Option.bind_some, net_Next hn, appI_ok (show q.length + [(nextP p x).getD (⟨0, 0⟩ : Port)].length ≤ 4294967296 by simp; omega), w]
  have w : wi64 ((L.length : Int) - 1) = (L.length : Int) - 1 := by rw [wi64_id] <;> omega
  rw [w]
  exact key L.length [] (Nat.le_refl _) (by simp [startQ])

end
end Go.E
/- Plain Lean: the flank of a road: one round of its search; what holds behind it. No condition. -/
namespace Go.E
open Go

section
variable {p : Plan} {n : Net} {r : Road}

def takeZ (b : Bool) (z : List Int) (e : Int) : Bool × Bool × List Int := if e ∈ z then (true, b, z) else if 12 ≤ z.length then (false, true, z) else (true, b, z ++ [e])

def pushN (p : Plan) (l : List Port) (x : Port) : List Port := match nextP p x with
  | some y => l ++ [y]
  | none => l

abbrev FS := Bool × List (Port × Bool) × List Need × List Int × List Int × List Port

/-- One round: the port x that lay on top; l: what lies under it. -/
def fstep (p : Plan) (st : List Step) (nd : List Need) (b : Bool) (vis : List (Port × Bool)) (g : List Need) (z h : List Int) (l : List Port) (x : Port) : FS :=
  if x.elem ∈ st.map (·.elem) ∨ seenB vis x = true then (b, vis, g, z, h, l)
  else if 0 ≤ readsP p x ∧ p.hard = false then (b, aput x true vis, g, z, if readsP p x ∈ h then h else h ++ [readsP p x], l)
  else if kindP p x.elem = 4 then (true, aput x true vis, g, z, h, l)
  else if kindP p x.elem = 2 then
    if x.fin = 0 then ((takeZ b z x.elem).2.1, aput x true vis, g, (takeZ b z x.elem).2.2, h, if (takeZ b z x.elem).1 then pushN p (pushN p l ⟨x.elem, 2⟩) ⟨x.elem, 1⟩ else l)
    else if ⟨x.elem, x.fin⟩ ∈ nd ∨ ⟨x.elem, x.fin⟩ ∈ g then ((takeZ b z x.elem).2.1, aput x true vis, g, (takeZ b z x.elem).2.2, h, if (takeZ b z x.elem).1 then pushN p l ⟨x.elem, 0⟩ else l)
    else (b, aput x true vis, if ⟨x.elem, wi64 (3 - x.fin)⟩ ∈ g then g else g ++ [⟨x.elem, wi64 (3 - x.fin)⟩], z, h, l)
  else match throughP p x.elem x.fin 0 with
    | none => (b, aput x true vis, g, z, h, l)
    | some o => ((takeZ b z x.elem).2.1, aput x true vis, g, (takeZ b z x.elem).2.2, h, if (takeZ b z x.elem).1 then pushN p l ⟨x.elem, o⟩ else l)

theorem takeZ_eq (b : Bool) (z : List Int) (e : Int) (hz : z.length ≤ 1000) : ((g_slices_Contains_int z e).bind fun y => bif y then some (true, b, z) else bif decide (12 ≤ (z.length : Int)) then some (false, true, z) else (appI z [e]).bind fun y' => some (true, b, y') : Option (Bool × Bool × List Int)) = some (takeZ b z e) := by
  rw [contains_int z (by omega)]
  unfold takeZ
  simp only [Option.bind_some]
  by_cases c : e ∈ z
  · rw [decide_eq_true c, if_pos c]; rfl
  · rw [decide_eq_false c, if_neg c]
    by_cases d : 12 ≤ z.length
    · rw [if_pos d, decide_eq_true (show (12 : Int) ≤ (z.length : Int) by omega)]; rfl
    · rw [if_neg d, decide_eq_false (show ¬ (12 : Int) ≤ (z.length : Int) by omega)]
      simp only [cond_false, appI_ok (show z.length + [e].length ≤ 4294967296 by simp; omega), Option.bind_some]

theorem pushN_eq (hn : NetOf p n) (l : List Port) (x : Port) (hl : l.length ≤ 1000000) : ((g_net_Net_Next n x).bind fun y => bif y.2 then (appI l [y.1]).bind fun y' => some y' else some l : Option (List Port)) = some (pushN p l x) := by
  rw [net_Next hn]
  unfold pushN
  cases nextP p x with
  | none => rfl
  | some y => simp only [Option.bind_some, Option.isSome_some, Option.getD_some, cond_true, appI_ok (show l.length + [y].length ≤ 4294967296 by simp; omega)]

theorem pushN_len (l : List Port) (x : Port) : (pushN p l x).length ≤ l.length + 1 := by unfold pushN; split <;> simp

theorem flank_step (hn : NetOf p n) (h1 : r.steps.length ≤ 12) (h2 : r.needs.length ≤ 1000) (b : Bool) (vis : List (Port × Bool)) (g : List Need) (z h : List Int) (l : List Port) (x : Port) (hg : g.length ≤ 1000) (hz : z.length ≤ 1000) (hh : h.length ≤ 1000) (hl : l.length ≤ 1000) :
    g_flank_Of_l2 n r r.steps r.needs p (b, vis, g, z, h, l ++ [x]) = some (.inl (fstep p r.steps r.needs b vis g z h l x)) := by
  have d : decide ((0 : Int) < (((l ++ [x]).length : Nat) : Int)) = true := by simp
  have w := wl_snoc l x (by omega)
  have i1 := idx_sn x (rfl : l.length = l.length)
  have s1 := slO_at x (rfl : l.length = l.length)
  have own := Own_eq (⟨r.frm, r.to, r.fin, r.steps, r.needs, g, z, h, b⟩ : Road) (show r.steps.length < 1000000 by omega) x.elem
  have tz := takeZ_eq b z x.elem hz
  have vb : (assoc vis x).getD false = seenB vis x := rfl
  unfold g_flank_Of_l2 fstep
  simp only [d, cond_true, w, i1, s1, own, Option.bind_some, vb]
  by_cases c : x.elem ∈ r.steps.map (·.elem) ∨ seenB vis x = true
  · rw [if_pos c]
    rcases c with c | c
    · rw [decide_eq_true c]; rfl
    · rw [c]; cases decide (x.elem ∈ r.steps.map (·.elem)) <;> rfl
  · rw [if_neg c]
    have c1 : x.elem ∉ r.steps.map (·.elem) := fun h => c (.inl h)
    have c2 : seenB vis x = false := by cases hs : seenB vis x with | false => rfl | true => exact absurd (.inr hs) c
    rw [decide_eq_false c1, c2]
    simp only [cond_false, Option.bind_some, net_Reads hn]
    by_cases k1 : 0 ≤ readsP p x ∧ p.hard = false
    · rw [if_pos k1, decide_eq_true k1.1, k1.2]
      simp only [cond_true, Bool.not_false, Option.bind_some, contains_int h (show h.length < 1000000 by omega)]
      by_cases m : readsP p x ∈ h
      · rw [decide_eq_true m, if_pos m]; rfl
      · rw [decide_eq_false m, if_neg m]
        simp only [Bool.not_false, cond_true, appI_ok (show h.length + [readsP p x].length ≤ 4294967296 by simp; omega), Option.bind_some]
    · rw [if_neg k1]
      have eb : (bif decide (0 ≤ readsP p x) then some (!p.hard) else some false : Option Bool) = some false := by
        by_cases a : 0 ≤ readsP p x
        · rw [decide_eq_true a]
          cases hp : p.hard with
          | true => rfl
          | false => exact absurd ⟨a, hp⟩ k1
        · rw [decide_eq_false a]; rfl
      simp only [eb, Option.bind_some, cond_false, net_Kind hn]
      by_cases k4 : kindP p x.elem = 4
      · rw [if_pos k4, k4]; rfl
      · rw [if_neg k4]
        have b4 : (kindP p x.elem == 4) = false := beq_eq_false_iff_ne.2 k4
        simp only [b4, cond_false]
        by_cases k2 : kindP p x.elem = 2
        · rw [if_pos k2, k2]
          simp only [beq_self_eq_true, cond_true]
          by_cases f0 : x.fin = 0
          · rw [if_pos f0]
            have bf : (x.fin == 0) = true := by simp [f0]
            simp only [bf, cond_true, tz, Option.bind_some]
            have q1 := pushN_len (p := p) l ⟨x.elem, 2⟩
            cases ht : (takeZ b z x.elem).1 with
            | true => simp only [cond_true, pushN_eq hn l ⟨x.elem, 2⟩ (by omega), Option.bind_some, pushN_eq hn (pushN p l ⟨x.elem, 2⟩) ⟨x.elem, 1⟩ (by omega), if_true]
            | false => simp only [cond_false, Option.bind_some, Bool.false_eq_true, if_false]
          · rw [if_neg f0]
            have bf : (x.fin == 0) = false := beq_eq_false_iff_ne.2 f0
            simp only [bf, cond_false, contains_need r.needs (show r.needs.length < 1000000 by omega), contains_need g (show g.length < 1000000 by omega), Option.bind_some]
            have en : (bif decide ((⟨x.elem, x.fin⟩ : Need) ∈ r.needs) then some true else some (decide ((⟨x.elem, x.fin⟩ : Need) ∈ g)) : Option Bool) = some (decide ((⟨x.elem, x.fin⟩ : Need) ∈ r.needs ∨ (⟨x.elem, x.fin⟩ : Need) ∈ g)) := by
              by_cases a : (⟨x.elem, x.fin⟩ : Need) ∈ r.needs
              · simp [a]
              · simp [a]
            simp only [en, Option.bind_some]
            by_cases a : (⟨x.elem, x.fin⟩ : Need) ∈ r.needs ∨ (⟨x.elem, x.fin⟩ : Need) ∈ g
            · rw [if_pos a, decide_eq_true a]
              simp only [cond_true, tz, Option.bind_some]
              cases ht : (takeZ b z x.elem).1 with
              | true => simp only [cond_true, pushN_eq hn l ⟨x.elem, 0⟩ (by omega), Option.bind_some, if_true]
              | false => simp only [cond_false, Option.bind_some, Bool.false_eq_true, if_false]
            · rw [if_neg a, decide_eq_false a]
              simp only [cond_false]
              by_cases m : (⟨x.elem, wi64 (3 - x.fin)⟩ : Need) ∈ g
              · rw [decide_eq_true m, if_pos m]; rfl
              · rw [decide_eq_false m, if_neg m]
                simp only [Bool.not_false, cond_true, appI_ok (show g.length + [(⟨x.elem, wi64 (3 - x.fin)⟩ : Need)].length ≤ 4294967296 by simp; omega), Option.bind_some]
        · rw [if_neg k2]
          have b2 : (kindP p x.elem == 2) = false := beq_eq_false_iff_ne.2 k2
          simp only [b2, cond_false, g_net_Net_From, net_Through hn, Option.bind_some]
          cases ht : throughP p x.elem x.fin 0 with
          | none => rfl
          | some o =>
            simp only [Option.isSome_some, cond_true, Option.getD_some, tz, Option.bind_some]
            cases htz : (takeZ b z x.elem).1 with
            | true => simp only [cond_true, pushN_eq hn l ⟨x.elem, o⟩ (by omega), Option.bind_some, if_true]
            | false => simp only [cond_false, Bool.false_eq_true, if_false]

end
end Go.E
/- Plain Lean: the flank of a road: what holds of zone, guards and holds; the search ends (laws FlankAgain, FlankApart). No condition. -/
namespace Go.E
open Go

section
variable {p : Plan} {n : Net} {r : Road}

structure ZOK (p : Plan) (st : List Step) (z : List Int) : Prop where
  len : z.length ≤ 12
  nd : z.Nodup
  own : ∀ e ∈ z, e ∉ st.map (·.elem) ∧ kindP p e ≠ 4

structure GOK (p : Plan) (st : List Step) (g : List Need) : Prop where
  ok : ∀ m ∈ g, m.elem ∉ st.map (·.elem) ∧ kindP p m.elem = 2 ∧ (m.pos = 1 ∨ m.pos = 2)
  nd : g.Pairwise (fun a b => a.elem ≠ b.elem)

theorem takeZ_ok {st : List Step} {b : Bool} {z : List Int} {e : Int} (h : ZOK p st z) (h1 : e ∉ st.map (·.elem)) (h2 : kindP p e ≠ 4) : ZOK p st (takeZ b z e).2.2 := by
  unfold takeZ
  split
  · exact h
  · rename_i hm
    split
    · exact h
    · rename_i hl
      refine ⟨by simp; omega, ?_, fun a ha => ?_⟩
      · simp only
        rw [List.nodup_append]
        exact ⟨h.nd, by simp, fun a ha c hc => by simp at hc; subst hc; intro e; subst e; exact hm ha⟩
      · rcases List.mem_append.1 ha with ha | ha
        · exact h.own a ha
        · simp at ha; subst ha; exact ⟨h1, h2⟩

theorem next_port {x y : Port} (h : nextP p x = some y) : y ∈ portsP p := nextL_mem h

theorem pushN_mem {l : List Port} {x y : Port} (h : y ∈ pushN p l x) : y ∈ l ∨ y ∈ portsP p := by
  unfold pushN at h
  cases hx : nextP p x with
  | none => rw [hx] at h; exact .inl h
  | some z =>
    rw [hx] at h
    rcases List.mem_append.1 h with h | h
    · exact .inl h
    · simp at h; subst h; exact .inr (next_port hx)

structure FI (p : Plan) (st : List Step) (M k : Nat) (vis : List (Port × Bool)) (g : List Need) (z h : List Int) (l : List Port) : Prop where
  zok : ZOK p st z
  gok : GOK p st g
  hold : p.hard = true → h = []
  port : ∀ x ∈ l, x ∈ portsP p
  lg : g.length ≤ k
  lh : h.length ≤ k
  meas : k + l.length + 3 * unv p vis ≤ M

theorem FI_step (hv : Valid p) {st : List Step} {nd : List Need} {M k : Nat} {b : Bool} {vis : List (Port × Bool)} {g : List Need} {z h : List Int} {l : List Port} {x : Port} (hi : FI p st M k vis g z h (l ++ [x])) {s : FS} (hs : s = fstep p st nd b vis g z h l x) :
    FI p st M (k + 1) s.2.1 s.2.2.1 s.2.2.2.1 s.2.2.2.2.1 s.2.2.2.2.2 := by
  have hm := hi.meas
  simp only [List.length_append, List.length_cons, List.length_nil] at hm
  have hx : x ∈ portsP p := hi.port x (by simp)
  have hl : ∀ y ∈ l, y ∈ portsP p := fun y hy => hi.port y (by simp [hy])
  have hlg := hi.lg
  have hlh := hi.lh
  have hul := unv_le (p := p) (vis := vis) x
  have hhas : hasP p x = true := by
    obtain ⟨i, hi⟩ := List.mem_iff_getElem?.1 hx
    exact hv.join.has i x hi
  unfold fstep at hs
  by_cases c : x.elem ∈ st.map (·.elem) ∨ seenB vis x = true
  · rw [if_pos c] at hs
    subst hs
    exact ⟨hi.zok, hi.gok, hi.hold, hl, by dsimp only; omega, by dsimp only; omega, by dsimp only; omega⟩
  · rw [if_neg c] at hs
    have c1 : x.elem ∉ st.map (·.elem) := fun h => c (.inl h)
    have c2 : seenB vis x = false := by cases hs : seenB vis x with | false => rfl | true => exact absurd (.inr hs) c
    have hlt := unv_lt hx c2
    by_cases k1 : 0 ≤ readsP p x ∧ p.hard = false
    · rw [if_pos k1] at hs
      subst hs
      refine ⟨hi.zok, hi.gok, fun hh => (by rw [k1.2] at hh; cases hh), hl, by dsimp only; omega, ?_, by dsimp only; omega⟩
      dsimp only
      split
      · omega
      · simp; omega
    · rw [if_neg k1] at hs
      by_cases k4 : kindP p x.elem = 4
      · rw [if_pos k4] at hs
        subst hs
        exact ⟨hi.zok, hi.gok, hi.hold, hl, by dsimp only; omega, by dsimp only; omega, by dsimp only; omega⟩
      · rw [if_neg k4] at hs
        have hz := takeZ_ok (b := b) hi.zok c1 k4
        have p1 : ∀ y, (pushN p l y).length ≤ l.length + 1 := fun y => pushN_len l y
        by_cases k2 : kindP p x.elem = 2
        · rw [if_pos k2] at hs
          by_cases f0 : x.fin = 0
          · rw [if_pos f0] at hs
            subst hs
            refine ⟨hz, hi.gok, hi.hold, fun y hy => ?_, by dsimp only; omega, by dsimp only; omega, ?_⟩
            · dsimp only at hy
              split at hy
              · rcases pushN_mem hy with hy | hy
                · rcases pushN_mem hy with hy | hy
                  · exact hl y hy
                  · exact hy
                · exact hy
              · exact hl y hy
            · dsimp only
              have q1 := p1 ⟨x.elem, 2⟩
              have q2 := pushN_len (p := p) (pushN p l ⟨x.elem, 2⟩) ⟨x.elem, 1⟩
              split <;> omega
          · rw [if_neg f0] at hs
            by_cases a : (⟨x.elem, x.fin⟩ : Need) ∈ nd ∨ (⟨x.elem, x.fin⟩ : Need) ∈ g
            · rw [if_pos a] at hs
              subst hs
              refine ⟨hz, hi.gok, hi.hold, fun y hy => ?_, by dsimp only; omega, by dsimp only; omega, ?_⟩
              · dsimp only at hy
                split at hy
                · rcases pushN_mem hy with hy | hy
                  · exact hl y hy
                  · exact hy
                · exact hl y hy
              · dsimp only
                have q1 := p1 ⟨x.elem, 0⟩
                split <;> omega
            · rw [if_neg a] at hs
              subst hs
              obtain ⟨f1, f2, f3⟩ := hasP_fin hhas
              rw [k2] at f3
              simp [endsF] at f3
              have hw : wi64 (3 - x.fin) = 3 - x.fin := by rw [wi64_id] <;> omega
              refine ⟨hi.zok, ?_, hi.hold, hl, ?_, by dsimp only; omega, by dsimp only; omega⟩
              · dsimp only
                split
                · exact hi.gok
                · rename_i hng
                  refine ⟨fun m hm => ?_, ?_⟩
                  · rcases List.mem_append.1 hm with hm | hm
                    · exact hi.gok.ok m hm
                    · simp at hm; subst hm; exact ⟨c1, k2, by rw [hw]; simp only; omega⟩
                  · rw [List.pairwise_append]
                    refine ⟨hi.gok.nd, by simp, fun m hm q hq => ?_⟩
                    simp at hq
                    subst hq
                    intro he
                    simp only at he
                    obtain ⟨_, _, hp⟩ := hi.gok.ok m hm
                    have e1 : m = ⟨x.elem, m.pos⟩ := by cases m; simp only at he; subst he; rfl
                    by_cases e : m.pos = x.fin
                    · rw [e] at e1; rw [e1] at hm; exact a (.inr hm)
                    · have : m.pos = 3 - x.fin := by omega
                      rw [this, ← hw] at e1; rw [e1] at hm; exact hng hm
              · dsimp only
                split
                · omega
                · simp; omega
        · rw [if_neg k2] at hs
          cases ht : throughP p x.elem x.fin 0 with
          | none =>
            rw [ht] at hs
            subst hs
            exact ⟨hi.zok, hi.gok, hi.hold, hl, by dsimp only; omega, by dsimp only; omega, by dsimp only; omega⟩
          | some o =>
            rw [ht] at hs
            subst hs
            refine ⟨hz, hi.gok, hi.hold, fun y hy => ?_, by dsimp only; omega, by dsimp only; omega, ?_⟩
            · dsimp only at hy
              split at hy
              · rcases pushN_mem hy with hy | hy
                · exact hl y hy
                · exact hy
              · exact hl y hy
            · dsimp only
              have q1 := p1 ⟨x.elem, o⟩
              split <;> omega

theorem flank_total (hv : Valid p) (hn : NetOf p n) (h1 : r.steps.length ≤ 12) (h2 : r.needs.length ≤ 1000) : ∃ g z h b, g_flank_Of n r = some ⟨r.frm, r.to, r.fin, r.steps, r.needs, g, z, h, b⟩ ∧ ZOK p r.steps z ∧ GOK p r.steps g ∧ (p.hard = true → h = []) ∧ g.length ≤ 700 ∧ h.length ≤ 700 := by
  have hj := hv.nj
  have hp := portsF_len (p := p) r.steps
  rw [flank_start hv hn h1 h2]
  obtain ⟨R, e1, g, z, h, b, rfl, e2⟩ := loop_up (step := g_flank_Of_l2 n r r.steps r.needs p) (Post := fun R => ∃ g z h b, R = (⟨r.frm, r.to, r.fin, r.steps, r.needs, g, z, h, b⟩ : Road) ∧ ZOK p r.steps z ∧ GOK p r.steps g ∧ (p.hard = true → h = []) ∧ g.length ≤ 700 ∧ h.length ≤ 700)
    (fun k s => FI p r.steps 700 k s.2.1 s.2.2.1 s.2.2.2.1 s.2.2.2.2.1 s.2.2.2.2.2) 700 (s := (false, [], [], [], [], (startQ p (portsF p r.steps)).reverse)) (by
      rintro k ⟨b, vis, g, z, h, l⟩ hi
      have hm := hi.meas
      have hlg := hi.lg
      have hlh := hi.lh
      have hzl := hi.zok.len
      dsimp only at hm hlg hlh hzl hi
      rcases List.eq_nil_or_concat l with rfl | ⟨l', x, rfl⟩
      · left
        exact ⟨_, rfl, g, z, h, b, rfl, hi.zok, hi.gok, hi.hold, by omega, by omega⟩
      · right
        rw [List.concat_eq_append] at hi hm ⊢
        simp only [List.length_append, List.length_cons, List.length_nil] at hm
        refine ⟨by omega, _, flank_step hn h1 h2 b vis g z h l' x (by omega) (by omega) (by omega) (by omega), FI_step hv hi rfl⟩) (by
      refine ⟨⟨by simp, by simp, by simp⟩, ⟨by simp, by simp⟩, fun _ => rfl, fun y hy => ?_, by simp, by simp, ?_⟩
      · have := List.mem_reverse.1 hy
        obtain ⟨x, hx, rfl⟩ := List.mem_map.1 this
        obtain ⟨y, hy⟩ := ports_joined hx
        rw [hy]
        exact next_port hy
      · have h3 : unv p [] ≤ (portsP p).length := List.length_filter_le _ _
        have h4 : (portsP p).length = 2 * p.joins.length := flat_len2 _
        simp only [startQ, List.length_reverse, List.length_map]
        omega)
  exact ⟨g, z, h, b, e1, e2⟩

end
end Go.E
/- Plain Lean: zone, guards and holds of a road's flank (law FlankApart). No condition. -/
namespace Go.E
open Go

section
variable {p : Plan} {n : Net} {r : Road}

theorem Apart_l3 (R : Road) (i : Nat) (m : Need) (hg : R.guards.Pairwise (fun a b => a.elem ≠ b.elem)) (hm : R.guards[i]? = some m) (hl : R.guards.length ≤ 1000) : loopR (g_L9_FlankApart_l3 R (i : Int) m) 0 = some (.inl ((i + 1 : Nat) : Int)) := by
  have hi := ilt hm
  obtain ⟨b, h1, rfl⟩ := loop_up (step := g_L9_FlankApart_l3 R (i : Int) m) (Post := fun b => b = (Sum.inl ((i + 1 : Nat) : Int) : Int ⊕ Bool)) (fun k s => s = (k : Int) ∧ k ≤ i) i (s := (0 : Int)) (by
    rintro k s ⟨rfl, hk⟩
    by_cases e : k = i
    · left
      subst e
      have d : decide ((k : Int) < (k : Int)) = false := by simp
      refine ⟨_, ?_, rfl⟩
      simp only [g_L9_FlankApart_l3, d, cond_false, wi64_succ (show k < 1000000000 by omega)]
    · right
      have d : decide ((k : Int) < (i : Int)) = true := decide_eq_true (by omega)
      obtain ⟨q, hq⟩ : ∃ q, R.guards[k]? = some q := ⟨_, List.getElem?_eq_getElem (by omega)⟩
      have hne : (q.elem == m.elem) = false := by
        obtain ⟨b1, v1⟩ := List.getElem?_eq_some_iff.1 hq
        obtain ⟨b2, v2⟩ := List.getElem?_eq_some_iff.1 hm
        have := List.pairwise_iff_getElem.1 hg k i b1 b2 (by omega)
        rw [v1, v2] at this
        exact beq_eq_false_iff_ne.2 this
      exact ⟨by omega, _, by simp only [g_L9_FlankApart_l3, d, cond_true, idx_nat, hq, Option.bind_some, hne, cond_false, wi64_succ (show k < 1000000000 by omega)], rfl, by omega⟩) ⟨rfl, Nat.zero_le _⟩
  exact h1

theorem Apart_l2' (hn : NetOf p n) (hr : r.steps.length ≤ 12) (b : Bool) (R : Road) (hg : GOK p r.steps R.guards) (hl : R.guards.length ≤ 1000) : loopR (g_L9_FlankApart_l2 n (r, b) R) 0 = some true := by
  obtain ⟨b, h1, rfl⟩ := loop_ix (l := R.guards) (step := g_L9_FlankApart_l2 n (r, b) R) (Post := fun b => b = true) (fun _ _ => True) (fun _ => ⟨true, by simp only [g_L9_FlankApart_l2, dge, cond_false], rfl⟩)
    (fun i m hm _ => .inr ⟨by
      have hi := ilt hm
      obtain ⟨a1, a2, a3⟩ := hg.ok m (List.mem_of_getElem? hm)
      have e : (bif (m.pos != 1) then some (m.pos != 2) else some false : Option Bool) = some false := by rcases a3 with a3 | a3 <;> rw [a3] <;> rfl
      have b2 : ((2 : Int) != 2) = false := by decide
      simp only [g_L9_FlankApart_l2, dlt hm, cond_true, idx_nat, hm, Option.bind_some, Own_eq r (show r.steps.length < 1000000 by omega), decide_eq_false a1, cond_false, net_Kind hn, a2, b2, e, Apart_l3 R i m hg.nd hm hl], trivial⟩)
  exact h1

theorem slI_take {α : Type} (l : List α) (i : Nat) (h : i ≤ l.length) : slI l 0 (i : Int) = some (l.take i) := take_slI l i h

theorem Apart_l1' (hn : NetOf p n) (hr : r.steps.length ≤ 12) (b : Bool) (R : Road) (hz : ZOK p r.steps R.zone) (hg : GOK p r.steps R.guards) (hl : R.guards.length ≤ 1000) : loopR (g_L9_FlankApart_l1 n (r, b) R) 0 = some true := by
  obtain ⟨b, h1, rfl⟩ := loop_ix (l := R.zone) (step := g_L9_FlankApart_l1 n (r, b) R) (Post := fun b => b = true) (fun _ _ => True) (fun _ => ⟨true, by simp only [g_L9_FlankApart_l1, dge, cond_false, Apart_l2' hn hr b R hg hl, Option.map_some], rfl⟩)
    (fun i e he _ => .inr ⟨by
      have hi := ilt he
      have hzl := hz.len
      obtain ⟨a1, a2⟩ := hz.own e (List.mem_of_getElem? he)
      have b4 : (kindP p e == 4) = false := beq_eq_false_iff_ne.2 a2
      have hni : e ∉ R.zone.take i := fun hm => by
        obtain ⟨j, hj⟩ := List.getElem?_of_mem hm
        have hjl := ilt hj
        rw [List.length_take] at hjl
        rw [List.getElem?_take_of_lt (by omega)] at hj
        obtain ⟨b1, v1⟩ := List.getElem?_eq_some_iff.1 hj
        obtain ⟨b2, v2⟩ := List.getElem?_eq_some_iff.1 he
        have := (List.getElem_inj hz.nd).1 (show R.zone[j] = R.zone[i] by rw [v1, v2])
        omega
      simp only [g_L9_FlankApart_l1, dlt he, cond_true, idx_nat, he, Option.bind_some, Own_eq r (show r.steps.length < 1000000 by omega), decide_eq_false a1, cond_false, net_Kind hn, b4, slI_take R.zone i (by omega), In_eq (R.zone.take i) (by rw [List.length_take]; omega), decide_eq_false hni, wi64_succ (show i < 1000000000 by omega)], trivial⟩)
  exact h1

theorem FlankApart_true (p : Plan) (k : Int) (hk : (Lit.int .u8 k).wf = true) : g_L9_FlankApart p k = some true := by
  unfold g_L9_FlankApart
  simp only [known9, Option.bind_some, Bool.not_true, cond_false]
  obtain ⟨b, h1, h2⟩ := fine_total p
  simp only [h1, Option.bind_some]
  cases b with
  | false => rfl
  | true =>
    have hv := h2 rfl
    obtain ⟨o, h3, h4⟩ := made_total p
    obtain ⟨n, rfl, hn⟩ := h4 h1
    obtain ⟨r, b, h5, h6⟩ := L8_Road_eq hv hk
    simp only [Bool.not_true, cond_false, Option.bind_some, h3, h5, optM]
    cases b with
    | false => rfl
    | true =>
      obtain ⟨s, hs⟩ := h6 rfl
      have hl := ofF_steps hs
      have hnd : r.needs.length ≤ 12 := (ofF_road hs).2.2.2.2.2.2.2.2
      obtain ⟨g, z, h, b, e1, e2, e3, e4, e5, e6⟩ := flank_total hv hn hl (show r.needs.length ≤ 1000 by omega)
      have hz := e2.len
      have d12 : decide ((12 : Int) < (z.length : Int)) = false := decide_eq_false (by omega)
      have el := Elems2_eq (⟨r.frm, r.to, r.fin, r.steps, r.needs, g, z, h, b⟩ : Road) (show r.steps.length < 1000000 by omega)
      have el2 := Elems2_eq r (show r.steps.length < 1000000 by omega)
      have same := SameInts_refl (r.steps.map (·.elem)) (by rw [List.length_map]; omega)
      have same2 := eqNeeds2 r.needs r.needs (by omega)
      have fin := Apart_l1' hn hl true (⟨r.frm, r.to, r.fin, r.steps, r.needs, g, z, h, b⟩ : Road) e2 e3 (by dsimp only; omega)
      simp only [Bool.not_true, cond_false, e1, Option.bind_some, d12, el, el2, same, same2, decide_true]
      cases hh : p.hard with
      | true =>
        rw [e4 hh] at fin ⊢
        have d0 : decide ((0 : Int) < ((([] : List Int).length : Nat) : Int)) = false := by decide
        simp only [d0, cond_true, cond_false, Option.bind_some, fin]
      | false =>
        simp only [cond_false, Option.bind_some, fin]

end
end Go.E
