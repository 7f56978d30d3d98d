/- Plain Lean: the roads of a signal: the document's search and the program's are one. No condition. -/
import Derived.Test.YtdppdkjoaanpnaaGreatJ5
set_option linter.unusedVariables false
set_option linter.unusedSimpArgs false
namespace Go.E
open Go

def mkR (s to fin : Int) (st : List Step) (nd : List Need) : Road := ⟨s, to, fin, st, nd, [], [], [], false⟩

def addN (nd : List Need) (e pos : Int) : List Need := if pos = 0 then nd else nd ++ [⟨e, pos⟩]

/-- The roads that go on from the steps st into x. -/
def onF (p : Plan) (s : Int) : Nat → List Step → List Need → Port → List Int → List Road
  | 0, _, _, _, _ => []
  | k + 1, st, nd, x, met => if x.elem ∈ met ∨ st.length = 12 then [] else if kindP p x.elem = 4 then [mkR s (-1) 2 (st ++ [⟨x.elem, x.fin, -1⟩]) nd] else
    (outsP p x.elem x.fin).flatMap fun w => if 0 ≤ readsP p ⟨x.elem, w.out⟩ then [mkR s (readsP p ⟨x.elem, w.out⟩) 1 (st ++ [⟨x.elem, x.fin, w.out⟩]) (addN nd x.elem w.pos)] else match nextP p ⟨x.elem, w.out⟩ with
      | none => [mkR s (-1) 3 (st ++ [⟨x.elem, x.fin, w.out⟩]) (addN nd x.elem w.pos)]
      | some y => onF p s k (st ++ [⟨x.elem, x.fin, w.out⟩]) (addN nd x.elem w.pos) y (met ++ [x.elem])

/-- What one way gives. -/
def wayR (p : Plan) (s : Int) (k : Nat) (st : List Step) (nd : List Need) (x : Port) (met : List Int) (w : Way) : List Road :=
  if 0 ≤ readsP p ⟨x.elem, w.out⟩ then [mkR s (readsP p ⟨x.elem, w.out⟩) 1 (st ++ [⟨x.elem, x.fin, w.out⟩]) (addN nd x.elem w.pos)] else match nextP p ⟨x.elem, w.out⟩ with
    | none => [mkR s (-1) 3 (st ++ [⟨x.elem, x.fin, w.out⟩]) (addN nd x.elem w.pos)]
    | some y => onF p s k (st ++ [⟨x.elem, x.fin, w.out⟩]) (addN nd x.elem w.pos) y (met ++ [x.elem])

theorem onF_succ (p : Plan) (s : Int) (k : Nat) (st : List Step) (nd : List Need) (x : Port) (met : List Int) :
    onF p s (k + 1) st nd x met = if x.elem ∈ met ∨ st.length = 12 then [] else if kindP p x.elem = 4 then [mkR s (-1) 2 (st ++ [⟨x.elem, x.fin, -1⟩]) nd] else (outsP p x.elem x.fin).flatMap (wayR p s k st nd x met) := rfl

theorem wayR_len (p : Plan) (s : Int) (k : Nat) (st : List Step) (nd : List Need) (x : Port) (met : List Int) (w : Way) (ih : ∀ st nd x met, (onF p s k st nd x met).length ≤ 2 ^ k) : (wayR p s k st nd x met w).length ≤ 2 ^ k := by
  have h1 : 1 ≤ 2 ^ k := Nat.one_le_two_pow
  unfold wayR
  split
  · simp; omega
  · split
    · simp; omega
    · exact ih _ _ _ _

theorem flat_lenB {α β : Type} (f : α → List β) (b : Nat) : ∀ l : List α, (∀ a ∈ l, (f a).length ≤ b) → (l.flatMap f).length ≤ l.length * b
  | [], _ => by simp
  | a :: l, h => by
    have h1 := h a (by simp)
    have h2 := flat_lenB f b l fun x hx => h x (by simp [hx])
    simp only [List.flatMap_cons, List.length_append, List.length_cons, Nat.add_mul]
    omega

theorem onF_len (p : Plan) (s : Int) : ∀ (k : Nat) (st : List Step) (nd : List Need) (x : Port) (met : List Int), (onF p s k st nd x met).length ≤ 2 ^ k
  | 0, _, _, _, _ => by simp [onF]
  | k + 1, st, nd, x, met => by
    have h1 : 1 ≤ 2 ^ (k + 1) := Nat.one_le_two_pow
    rw [onF_succ]
    split
    · simp
    · split
      · simp; omega
      · have h2 := flat_lenB (wayR p s k st nd x met) (2 ^ k) (outsP p x.elem x.fin) fun w _ => wayR_len p s k st nd x met w (onF_len p s k)
        have h3 := outsP_len p x.elem x.fin
        have h4 : (outsP p x.elem x.fin).length * 2 ^ k ≤ 2 * 2 ^ k := Nat.mul_le_mul_right _ h3
        rw [Nat.pow_succ]; omega

/-! ### the document's search -/
theorem addN_len (nd : List Need) (e pos : Int) : (addN nd e pos).length ≤ nd.length + 1 := by
  unfold addN; split <;> simp

/-- The roads of a signal. -/
def ofF (p : Plan) (s : Int) : List Road := match idx p.signals s with
  | none => []
  | some a => match nextP p a.at_ with
    | none => []
    | some y => onF p s 13 [] [] y [a.at_.elem]

theorem At_eq (p : Plan) (s : Int) : g_R6_At p s = some (match idx p.signals s with | none => (⟨0, 0⟩, false) | some a => (a.at_, true)) := by
  unfold g_R6_At
  by_cases h1 : s < 0
  · simp [h1, idx_none (.inl h1)]
  · by_cases h2 : (p.signals.length : Int) ≤ s
    · simp [h1, h2, idx_none (.inr h2)]
    · obtain ⟨a, ha⟩ := idx_of (l := p.signals) (n := s) (by omega) (by omega)
      simp [h1, h2, ha]

end Go.E
/- Plain Lean: the program's search for roads gives what the document's does. No condition. -/
namespace Go.E
open Go

/-- The points among the steps, as they are to lie. -/
def needsL : List Step → List Int → List Need
  | s :: st, q :: ps => if q = 0 then needsL st ps else ⟨s.elem, q⟩ :: needsL st ps
  | _, _ => []

theorem needsL_snoc : ∀ (st : List Step) (ps : List Int) (s : Step) (q : Int), st.length = ps.length → needsL (st ++ [s]) (ps ++ [q]) = addN (needsL st ps) s.elem q
  | [], [], s, q, _ => by simp [needsL, addN]
  | [], _ :: _, _, _, h => by simp at h
  | _ :: _, [], _, _, h => by simp at h
  | a :: st, b :: ps, s, q, h => by
    simp only [List.cons_append, needsL]
    rw [needsL_snoc st ps s q (by simpa using h)]
    unfold addN
    split <;> split <;> simp

theorem needsL_len : ∀ (st : List Step) (ps : List Int), (needsL st ps).length ≤ st.length
  | [], ps => by simp [needsL]
  | _ :: _, [] => by simp [needsL]
  | a :: st, b :: ps => by
    have := needsL_len st ps
    unfold needsL
    split
    · simp; omega
    · simp; omega

theorem needs_loop {st : List Step} {ps : List Int} (hl : st.length = ps.length) (hb : st.length < 1000) {β : Type} {step : Int × List Need → Option ((Int × List Need) ⊕ (β × List Need))} {c : β}
    (h : ∀ (i : Int) (o : List Need), step (i, o) = bif decide (i < (st.length : Int)) then (((idx st i).bind fun y => (idx ps i).bind fun z => bif (z != 0) then (idx ps i).bind fun z2 => (appI o [(⟨y.elem, z2⟩ : Need)]).bind fun w => some w else some o : Option ((List Need)))).bind fun (t : (List Need)) => some (.inl (wi64 (i + 1), t)) else some (.inr (c, o))) :
    loopR step (0, []) = some (c, needsL st ps) := by
  obtain ⟨b, h1, h2⟩ := loop_st (l := st) (step := step) (Post := fun b => b = (c, needsL st ps)) (fun i o => o = needsL (st.take i) (ps.take i)) (c := [])
    (fun o ho => ⟨(c, o), by rw [h]; simp, by rw [ho, List.take_length, hl, List.take_length]⟩)
    (fun i a o ha ho => by
      have hi := ilt ha
      have hz : ps[i]? = some (ps[i]'(by omega)) := List.getElem?_eq_getElem _
      have hol : o.length ≤ 1000 := by
        have := needsL_len (st.take i) (ps.take i)
        rw [ho]; rw [List.length_take] at this; omega
      have ht : needsL (st.take (i + 1)) (ps.take (i + 1)) = addN o a.elem (ps[i]'(by omega)) := by
        rw [List.take_add_one, List.take_add_one, ha, hz, ho]
        exact needsL_snoc _ _ _ _ (by simp; omega)
      refine .inr ⟨addN o a.elem (ps[i]'(by omega)), ?_, ht.symm⟩
      rw [h]
      simp only [dlt ha, cond_true, idx_nat, ha, hz, Option.bind_some, cbne]
      unfold addN
      by_cases e : ps[i]'(by omega) = 0
      · simp only [if_pos e, Option.bind_some, wi64_succ (show i < 1000000000 by omega)]
      · simp only [if_neg e]
        rw [appI_ok (by simp; omega)]
        simp only [Option.bind_some, wi64_succ (show i < 1000000000 by omega)])
    (by simp [needsL])
  rw [h1, h2]

section
variable {p : Plan} {n : Net}

theorem net_At_eq (hn : NetOf p n) (s : Int) : g_net_Net_At n s = some (match idx p.signals s with | none => (⟨0, 0⟩, false) | some a => (a.at_, true)) := by
  have := At_eq p s
  unfold g_R6_At at this
  unfold g_net_Net_At
  rw [hn.plan]; exact this

theorem may_eq (b : Int) (st : List Step) (ps : List Int) (lf : List (List Way)) (e : Int) (hl : st.length ≤ 1000) : g_road_path_may ⟨b, st, ps, lf⟩ e = some (decide (st.length < 12 ∧ e ≠ b ∧ e ∉ st.map (·.elem))) := by
  have key : g_slices_ContainsFunc_apiStep_c83 st e = some (decide (e ∈ st.map (·.elem))) := by
    unfold g_slices_ContainsFunc_apiStep_c83
    obtain ⟨t, h1, h2⟩ := loop_ix (l := st) (step := g_slices_ContainsFunc_apiStep_c83_l1 st e) (Post := fun t => decide (0 ≤ t) = decide (e ∈ st.map (·.elem))) (fun _ s => s.elem ≠ e)
      (fun good => ⟨-1, by simp [g_slices_ContainsFunc_apiStep_c83_l1], by
        rw [show decide ((0 : Int) ≤ -1) = false by decide]
        symm; rw [decide_eq_false_iff_not]; intro hm
        obtain ⟨s, hs, he⟩ := List.mem_map.1 hm
        obtain ⟨i, hi⟩ := List.getElem?_of_mem hs
        exact good i s hi he⟩)
      (fun i s hs _ => by
        have := ilt hs
        by_cases c : s.elem = e
        · refine .inl ⟨(i : Int), by simp only [g_slices_ContainsFunc_apiStep_c83_l1, g_road_path_may_1, dlt hs, cond_true, idx_nat, hs, Option.bind_some, c, beq_self_eq_true], ?_⟩
          rw [show decide ((0 : Int) ≤ (i : Int)) = true by simp]
          symm; rw [decide_eq_true_iff]; exact List.mem_map.2 ⟨s, List.mem_of_getElem? hs, c⟩
        · have cb : (s.elem == e) = false := beq_eq_false_iff_ne.2 c
          exact .inr ⟨by simp only [g_slices_ContainsFunc_apiStep_c83_l1, g_road_path_may_1, dlt hs, cond_true, idx_nat, hs, Option.bind_some, cb, cond_false, wi64_succ (show i < 1000000000 by omega)], c⟩)
    rw [h1]; simp only [Option.bind_some, h2]
  unfold g_road_path_may
  rw [key]
  by_cases h1 : st.length < 12
  · by_cases h2 : e = b
    · have : decide ((st.length : Int) < 12) = true := by simp; omega
      simp [this, h2]
    · have d1 : decide ((st.length : Int) < 12) = true := by simp; omega
      have d2 : (e != b) = true := bne_iff_ne.2 h2
      simp only [d1, d2, cond_true, Option.bind_some, h1, h2, ne_eq, not_false_eq_true, true_and, decide_not]
  · have : decide ((st.length : Int) < 12) = false := by simp; omega
    simp [this, h1]

theorem Clone_steps (l : List Step) (h : l.length ≤ 1000000) : g_slices_Clone_apiStep l = some l := clone_eq l h

/-! ### the program's search: what comes of a state -/
/-- From the inner loop on. -/
noncomputable def innC (n : Net) (s : Int) (a : Port) (b : Bool) (o : List Road) (st : List Step) (ps : List Int) (lf : List (List Way)) : Option (List Road) :=
  (loopR (g_road_Of_l3 n s) (o, st, ps, lf)).bind fun r => match r with
    | .inl s' => loopR (g_road_Of_l1 n s (a, b)) s'
    | .inr x => some x

theorem out_eq (s : Int) (a : Port) (b : Bool) (x : Port) (o : List Road) (st : List Step) (ps : List Int) (lf : List (List Way)) {o' : List Road} {st' : List Step} {ps' : List Int} {lf' : List (List Way)}
    (h : g_road_Of_l1 n s (a, b) (x.elem, x.fin, o, st, ps, lf) = loopR (g_road_Of_l3 n s) (o', st', ps', lf')) : loopR (g_road_Of_l1 n s (a, b)) (x.elem, x.fin, o, st, ps, lf) = innC n s a b o' st' ps' lf' := by
  rw [loopR_eq, h]
  unfold innC
  cases loopR (g_road_Of_l3 n s) (o', st', ps', lf') with
  | none => rfl
  | some r => cases r <;> rfl

theorem inn_step {s : Int} {a : Port} {b : Bool} {o o' : List Road} {st st' : List Step} {ps ps' : List Int} {lf lf' : List (List Way)} (h : g_road_Of_l3 n s (o, st, ps, lf) = some (.inl (o', st', ps', lf'))) : innC n s a b o st ps lf = innC n s a b o' st' ps' lf' := by
  unfold innC
  rw [loopR_inl h]

theorem inn_go {s : Int} {a : Port} {b : Bool} {o : List Road} {st : List Step} {ps : List Int} {lf : List (List Way)} {x : Port} {o' : List Road} {st' : List Step} {ps' : List Int} {lf' : List (List Way)} (h : g_road_Of_l3 n s (o, st, ps, lf) = some (.inr (.inl (x.elem, x.fin, o', st', ps', lf')))) :
    innC n s a b o st ps lf = loopR (g_road_Of_l1 n s (a, b)) (x.elem, x.fin, o', st', ps', lf') := by
  unfold innC
  rw [loopR_inr h]; rfl

theorem wl_snoc {α : Type} (l : List α) (x : α) (hl : l.length < 1000000) : wi64 (((l ++ [x]).length : Int) - 1) = (l.length : Int) := by
  have : (((l ++ [x]).length : Int) - 1) = (l.length : Int) := by simp
  rw [this, wi64_id] <;> omega

theorem idx_sn {α : Type} {l : List α} {m : Nat} (x : α) (h : l.length = m) : idx (l ++ [x]) (m : Int) = some x := by
  rw [idx_nat]; subst h; simp

theorem slO_nil {α : Type} {l : List α} (h : l ≠ []) (a b : Int) : slO l a b = slI l a b := by
  cases l with
  | nil => exact absurd rfl h
  | cons x l => rfl

theorem slO_at {α : Type} {l : List α} {m : Nat} (x : α) (h : l.length = m) : slO (l ++ [x]) 0 (m : Int) = some l := by
  subst h
  rw [slO_nil (by simp)]
  unfold slI
  rw [if_pos ⟨by omega, by omega, by simp; omega⟩]; simp

theorem setI_at {α : Type} {l : List α} {m : Nat} (x y : α) (h : l.length = m) : setI (l ++ [x]) (m : Int) y = l ++ [y] := by
  subst h
  unfold setI
  simp

theorem inn_end (s : Int) (o : List Road) : g_road_Of_l3 n s (o, [], [], []) = some (.inr (.inr o)) := rfl

theorem inn_pop (s : Int) (o : List Road) (st : List Step) (ps : List Int) (lf : List (List Way)) (sp : Step) (q : Int) (hl : st.length < 1000) (hp : ps.length = st.length) (hf : lf.length = st.length) :
    g_road_Of_l3 n s (o, st ++ [sp], ps ++ [q], lf ++ [[]]) = some (.inl (o, st, ps, lf)) := by
  have d : decide ((0 : Int) < ((st ++ [sp]).length : Int)) = true := by simp
  unfold g_road_Of_l3
  simp only [d, cond_true, wl_snoc st sp (by omega), idx_sn _ hf, Option.bind_some, List.length_nil, slO_at _ rfl, slO_at _ hp, slO_at _ hf]
  rfl

theorem inn_way (hn : NetOf p n) (s : Int) (o : List Road) (st : List Step) (ps : List Int) (lf : List (List Way)) (sp : Step) (q : Int) (w : Way) (ws : List Way) (hl : st.length < 900) (hp : ps.length = st.length) (hf : lf.length = st.length) (ho : o.length < 1000000) :
    g_road_Of_l3 n s (o, st ++ [sp], ps ++ [q], lf ++ [w :: ws]) =
      if 0 ≤ readsP p ⟨sp.elem, w.out⟩ then some (.inl (o ++ [mkR s (readsP p ⟨sp.elem, w.out⟩) 1 (st ++ [⟨sp.elem, sp.in_, w.out⟩]) (needsL (st ++ [⟨sp.elem, sp.in_, w.out⟩]) (ps ++ [w.pos]))], st ++ [⟨sp.elem, sp.in_, w.out⟩], ps ++ [w.pos], lf ++ [ws])) else match nextP p ⟨sp.elem, w.out⟩ with
        | none => some (.inl (o ++ [mkR s (-1) 3 (st ++ [⟨sp.elem, sp.in_, w.out⟩]) (needsL (st ++ [⟨sp.elem, sp.in_, w.out⟩]) (ps ++ [w.pos]))], st ++ [⟨sp.elem, sp.in_, w.out⟩], ps ++ [w.pos], lf ++ [ws]))
        | some y => some (.inr (.inl (y.elem, y.fin, o, st ++ [⟨sp.elem, sp.in_, w.out⟩], ps ++ [w.pos], lf ++ [ws]))) := by
  have d : decide ((0 : Int) < ((st ++ [sp]).length : Int)) = true := by simp
  have d2 : (((w :: ws).length : Int) == 0) = false := by rw [beq_eq_false_iff_ne]; simp; omega
  have d3 : idx (w :: ws) 0 = some w := rfl
  have d4 : slI (w :: ws) 1 ((w :: ws).length : Int) = some ws := by
    unfold slI
    rw [if_pos ⟨by omega, by simp; omega, by simp⟩]; simp
  unfold g_road_Of_l3
  simp only [d, cond_true, wl_snoc st sp (by omega), idx_sn _ hf, idx_sn _ hp, idx_sn _ (rfl : st.length = st.length), Option.bind_some, d2, cond_false, d3, d4, setI_at _ _ hf, setI_at _ _ hp, setI_at _ _ (rfl : st.length = st.length), net_Reads hn, net_Next hn]
  have hst : (st ++ [(⟨sp.elem, sp.in_, w.out⟩ : Step)]).length ≤ 1000000 := by simp; omega
  have hls : ∀ (t : Step), (st ++ [(⟨sp.elem, sp.in_, w.out⟩ : Step)]).length = (ps ++ [w.pos]).length := fun _ => by simp [hp]
  have ha : ∀ r : Road, o.length + [r].length ≤ 4294967296 := fun r => by simp; omega
  by_cases hr : 0 ≤ readsP p ⟨sp.elem, w.out⟩
  · rw [if_pos hr]
    simp only [hr, decide_true, cond_true, Clone_steps _ hst, Option.bind_some]
    rw [needs_loop (c := st ++ [⟨sp.elem, sp.in_, w.out⟩]) (hls sp) (by simp; omega) (fun i o => by unfold g_road_Of_l4; simp only [wl_snoc st sp (by omega), setI_at _ _ hp, setI_at _ _ (rfl : st.length = st.length)])]
    simp only [Option.bind_some, appI_ok (ha _)]
    rfl
  · rw [if_neg hr]
    simp only [hr, decide_false, cond_false]
    cases hnx : nextP p ⟨sp.elem, w.out⟩ with
    | none =>
      simp only [Option.isSome_none, Bool.not_false, cond_true, Clone_steps _ hst, Option.bind_some]
      rw [needs_loop (c := st ++ [⟨sp.elem, sp.in_, w.out⟩]) (hls sp) (by simp; omega) (fun i o => by unfold g_road_Of_l5; simp only [wl_snoc st sp (by omega), setI_at _ _ hp, setI_at _ _ (rfl : st.length = st.length)])]
      simp only [Option.bind_some, appI_ok (ha _)]
      rfl
    | some y =>
      simp only [Option.isSome_some, Option.getD_some, Bool.not_true, cond_false]

theorem outs_gate {e i : Int} (h : kindP p e = 4) : outsP p e i = [] := by
  unfold outsP
  rw [h]; simp

theorem may_step (hn : NetOf p n) (s : Int) (a : Port) (b : Bool) (x : Port) (o : List Road) (st : List Step) (ps : List Int) (lf : List (List Way)) (hl : st.length ≤ 13) (hp : ps.length = st.length) (hf : lf.length = st.length) (ho : o.length < 1000000) :
    loopR (g_road_Of_l1 n s (a, b)) (x.elem, x.fin, o, st, ps, lf) = if st.length < 12 ∧ x.elem ≠ a.elem ∧ x.elem ∉ st.map (·.elem) then
      innC n s a b (if kindP p x.elem = 4 then o ++ [mkR s (-1) 2 (st ++ [⟨x.elem, x.fin, -1⟩]) (needsL (st ++ [⟨x.elem, x.fin, -1⟩]) (ps ++ [0]))] else o) (st ++ [⟨x.elem, x.fin, -1⟩]) (ps ++ [0]) (lf ++ [outsP p x.elem x.fin]) else innC n s a b o st ps lf := by
  by_cases hm : st.length < 12 ∧ x.elem ≠ a.elem ∧ x.elem ∉ st.map (·.elem)
  · rw [if_pos hm]
    have ha : ∀ {α : Type} (l : List α) (x : α), l.length < 2000000 → l.length + [x].length ≤ 4294967296 := fun l x h => by simp; omega
    by_cases hk : kindP p x.elem = 4
    · rw [if_pos hk]
      refine out_eq s a b x o st ps lf ?_
      have hst : (st ++ [(⟨x.elem, x.fin, -1⟩ : Step)]).length ≤ 1000000 := by simp; omega
      unfold g_road_Of_l1
      simp only [may_eq a.elem st ps lf x.elem (by omega), Option.bind_some, decide_eq_true hm, cond_true, appI_ok (ha st ⟨x.elem, x.fin, -1⟩ (by omega)), appI_ok (ha ps 0 (by omega)), net_Outs hn, appI_ok (ha lf (outsP p x.elem x.fin) (by omega)), net_Kind hn, cbeq, if_pos hk, Clone_steps _ hst]
      rw [needs_loop (c := st ++ [⟨x.elem, x.fin, -1⟩]) (st := st ++ [⟨x.elem, x.fin, -1⟩]) (ps := ps ++ [0]) (by simp [hp]) (by simp; omega) (fun i o => by unfold g_road_Of_l2; rfl)]
      simp only [Option.bind_some, appI_ok (ha o _ (by omega))]
      rfl
    · rw [if_neg hk]
      refine out_eq s a b x o st ps lf ?_
      unfold g_road_Of_l1
      simp only [may_eq a.elem st ps lf x.elem (by omega), Option.bind_some, decide_eq_true hm, cond_true, appI_ok (ha st ⟨x.elem, x.fin, -1⟩ (by omega)), appI_ok (ha ps 0 (by omega)), net_Outs hn, appI_ok (ha lf (outsP p x.elem x.fin) (by omega)), net_Kind hn, cbeq, if_neg hk]
  · rw [if_neg hm]
    refine out_eq s a b x o st ps lf ?_
    unfold g_road_Of_l1
    simp only [may_eq a.elem st ps lf x.elem (by omega), Option.bind_some, decide_eq_false hm, cond_false]

/-- The program's search from an element on: the roads that go on from there, then back. -/
theorem outer (hn : NetOf p n) (s : Int) (a : Port) (b : Bool) : ∀ (k : Nat) (x : Port) (o : List Road) (st : List Step) (ps : List Int) (lf : List (List Way)), st.length + k = 13 → ps.length = st.length → lf.length = st.length → o.length + 2 ^ k ≤ 100000 →
    loopR (g_road_Of_l1 n s (a, b)) (x.elem, x.fin, o, st, ps, lf) = innC n s a b (o ++ onF p s k st (needsL st ps) x (a.elem :: st.map (·.elem))) st ps lf
  | 0, x, o, st, ps, lf, hk, hp, hf, ho => by
    rw [may_step hn s a b x o st ps lf (by omega) hp hf (by omega), if_neg (by omega)]
    simp [onF]
  | k + 1, x, o, st, ps, lf, hk, hp, hf, ho => by
    have hpow : 2 ^ k ≤ 2 ^ 12 := Nat.pow_le_pow_right (by decide) (by omega)
    rw [Nat.pow_succ] at ho
    rw [may_step hn s a b x o st ps lf (by omega) hp hf (by omega), onF_succ]
    by_cases hm : st.length < 12 ∧ x.elem ≠ a.elem ∧ x.elem ∉ st.map (·.elem)
    · have hm2 : ¬ (x.elem ∈ a.elem :: st.map (·.elem) ∨ st.length = 12) := by
        rintro (h | h)
        · rcases List.mem_cons.1 h with h | h
          · exact hm.2.1 h
          · exact hm.2.2 h
        · omega
      rw [if_pos hm, if_neg hm2]
      by_cases hk4 : kindP p x.elem = 4
      · rw [if_pos hk4, if_pos hk4, outs_gate hk4, inn_step (inn_pop s _ st ps lf _ 0 (by omega) hp hf), needsL_snoc _ _ _ _ hp.symm]
        rfl
      · rw [if_neg hk4, if_neg hk4]
        have inner : ∀ (ws : List Way) (o : List Road) (u q : Int), o.length + ws.length * 2 ^ k ≤ 100000 → innC n s a b o (st ++ [⟨x.elem, x.fin, u⟩]) (ps ++ [q]) (lf ++ [ws]) = innC n s a b (o ++ ws.flatMap (wayR p s k st (needsL st ps) x (a.elem :: st.map (·.elem)))) st ps lf := by
          intro ws
          induction ws with
          | nil =>
            intro o u q ho
            rw [inn_step (inn_pop s _ st ps lf _ q (by omega) hp hf)]
            simp
          | cons w ws ih =>
            intro o u q ho
            rw [List.length_cons, Nat.add_mul] at ho
            have hway := inn_way hn s o st ps lf ⟨x.elem, x.fin, u⟩ q w ws (by omega) hp hf (by omega)
            have h1 : 1 ≤ 2 ^ k := Nat.one_le_two_pow
            rw [List.flatMap_cons, ← List.append_assoc]
            simp only at hway
            by_cases hr : 0 ≤ readsP p ⟨x.elem, w.out⟩
            · rw [if_pos hr] at hway
              rw [inn_step hway, ih _ _ _ (by simp; omega)]
              unfold wayR
              rw [if_pos hr, needsL_snoc _ _ _ _ hp.symm]
            · rw [if_neg hr] at hway
              cases hnx : nextP p ⟨x.elem, w.out⟩ with
              | none =>
                rw [hnx] at hway
                rw [inn_step hway, ih _ _ _ (by simp; omega)]
                unfold wayR
                rw [if_neg hr, hnx, needsL_snoc _ _ _ _ hp.symm]
              | some y =>
                rw [hnx] at hway
                have hlen := onF_len p s k (st ++ [⟨x.elem, x.fin, w.out⟩]) (needsL (st ++ [⟨x.elem, x.fin, w.out⟩]) (ps ++ [w.pos])) y (a.elem :: (st ++ [(⟨x.elem, x.fin, w.out⟩ : Step)]).map (·.elem))
                rw [inn_go hway, outer hn s a b k y o _ _ _ (by simp; omega) (by simp [hp]) (by simp [hf]) (by omega), ih _ _ _ (by simp only [List.length_append]; omega)]
                unfold wayR
                rw [if_neg hr, hnx, needsL_snoc _ _ _ _ hp.symm]
                simp
        rw [inner _ _ _ _ (by have h3 := outsP_len p x.elem x.fin; have h4 : (outsP p x.elem x.fin).length * 2 ^ k ≤ 2 * 2 ^ k := Nat.mul_le_mul_right _ h3; omega)]
    · have hm2 : x.elem ∈ a.elem :: st.map (·.elem) ∨ st.length = 12 := by
        by_cases h1 : st.length = 12
        · exact .inr h1
        · left
          by_cases h2 : x.elem = a.elem
          · simp [h2]
          · by_cases h3 : x.elem ∈ st.map (·.elem)
            · exact List.mem_cons_of_mem _ h3
            · exact absurd ⟨by omega, h2, h3⟩ hm
      rw [if_neg hm, if_pos hm2]; simp

/-- The program's roads of a signal. -/
theorem road_Of_eq (hn : NetOf p n) (s : Int) : g_road_Of n s = some (ofF p s) := by
  unfold g_road_Of ofF
  rw [net_At_eq hn]
  cases idx p.signals s with
  | none => rfl
  | some a =>
    simp only [Option.bind_some, Bool.not_true, cond_false, net_Next hn]
    cases nextP p a.at_ with
    | none => rfl
    | some y =>
      simp only [Option.isSome_some, Option.getD_some, Bool.not_true, cond_false]
      rw [outer hn s a.at_ true 13 y [] [] [] [] rfl rfl rfl (by decide)]
      unfold innC
      rw [loopR_inr (inn_end s _)]
      rfl

end
end Go.E
/- Plain Lean: whether something is a road: the program's answer and the document's are one. No condition. -/
namespace Go.E
open Go

def wayF (l : List Way) (o : Int) : Option Way := l.find? fun w => w.out == o

/-- The needs of steps that follow from a port on, if they may follow. -/
def stepsF (p : Plan) (a : Int) : Option Port → List Step → List Need → List Step → Option (List Need)
  | _, _, nd, [] => some nd
  | none, _, _, _ :: _ => none
  | some x, pv, nd, s :: r => if s.elem ≠ x.elem ∨ s.in_ ≠ x.fin ∨ s.elem = a ∨ s.elem ∈ pv.map (·.elem) then none else if kindP p s.elem = 4 then (if r = [] ∧ s.out = -1 then some nd else none) else match wayF (outsP p s.elem s.in_) s.out with
    | none => none
    | some w => if r ≠ [] ∧ 0 ≤ readsP p ⟨s.elem, s.out⟩ then none else stepsF p a (nextP p ⟨s.elem, s.out⟩) (pv ++ [s]) (addN nd s.elem w.pos) r

def tailF (p : Plan) (fin to : Int) (l : Step) : Bool :=
  if kindP p l.elem = 4 then decide (fin = 2 ∧ to = -1) else if 0 ≤ readsP p ⟨l.elem, l.out⟩ then decide (fin = 1 ∧ to = readsP p ⟨l.elem, l.out⟩) else (nextP p ⟨l.elem, l.out⟩).isNone && decide (fin = 3 ∧ to = -1)

/-- Is it a road (but for its flank)? -/
def isF (p : Plan) (r : Road) : Bool := match idx p.signals r.frm with
  | none => false
  | some sg => if r.steps.length < 1 ∨ 12 < r.steps.length then false else match stepsF p sg.at_.elem (nextP p sg.at_) [] [] r.steps with
    | none => false
    | some nd => match r.steps.getLast? with
      | none => false
      | some l => tailF p r.fin r.to l && decide (r.needs = nd)

theorem stepsF_len {p : Plan} {a : Int} : ∀ {r : List Step} {x : Option Port} {pv : List Step} {nd nd' : List Need}, stepsF p a x pv nd r = some nd' → nd'.length ≤ nd.length + r.length
  | [], x, pv, nd, nd', h => by
    have : nd = nd' := by cases x <;> simpa [stepsF] using h
    subst this; simp
  | s :: r, none, pv, nd, nd', h => by simp [stepsF] at h
  | s :: r, some x, pv, nd, nd', h => by
    unfold stepsF at h
    split at h
    · cases h
    · split at h
      · split at h
        · cases h; simp
        · cases h
      · split at h
        · cases h
        · split at h
          · cases h
          · have h1 := stepsF_len h
            rename_i w _ _
            have h2 := addN_len nd s.elem w.pos
            simp only [List.length_cons]; omega

section
variable {p : Plan} {n : Net}

/-! ### the document's test -/
end
end Go.E
/- Plain Lean: whether something is a road, as the document says; the roads of a signal are roads, and none is told twice. No condition. -/
namespace Go.E
open Go

theorem outs_dist (p : Plan) (e i : Int) : (outsP p e i).Pairwise (fun a b => a.out ≠ b.out) := by
  unfold outsP
  repeat' split
  all_goals simp

theorem outs_fact {p : Plan} {e i : Int} {w : Way} (h : w ∈ outsP p e i) : 0 ≤ w.out ∧ w.out < endsF (kindP p e) ∧ 0 ≤ i ∧ i < endsF (kindP p e) ∧ kindP p e ≠ 4 ∧ (w.pos ≠ 0 → kindP p e = 2 ∧ (w.pos = 1 ∨ w.pos = 2)) := by
  unfold outsP at h
  cases hh : hasP p ⟨e, i⟩ with
  | false => rw [hh] at h; simp at h
  | true =>
    obtain ⟨h1, h2, h3⟩ := hasP_fin hh
    simp only at h1 h2 h3
    rw [hh] at h
    simp only [if_true] at h
    by_cases k1 : kindP p e = 1
    · rw [k1] at h h3 ⊢
      simp [endsF] at h h3 ⊢
      subst h
      simp; omega
    · by_cases k3 : kindP p e = 3
      · rw [k3] at h h3 ⊢
        simp [endsF] at h h3 ⊢
        subst h
        simp
        split
        · omega
        · split
          · omega
          · split <;> omega
      · by_cases k2 : kindP p e = 2
        · rw [k2] at h h3 ⊢
          simp [endsF] at h h3 ⊢
          by_cases i0 : i = 0
          · subst i0
            simp at h
            rcases h with rfl | rfl <;> simp
          · rw [if_neg i0] at h
            simp at h
            subst h
            simp; omega
        · rw [if_neg k1, if_neg k3, if_neg k2] at h; simp at h

theorem wayF_some {l : List Way} {o : Int} {w : Way} (h : wayF l o = some w) : w ∈ l ∧ w.out = o := by
  refine ⟨List.mem_of_find?_eq_some h, ?_⟩
  have := List.find?_some h
  simpa using this

theorem wayF_mem : ∀ {l : List Way} {w : Way}, l.Pairwise (fun a b => a.out ≠ b.out) → w ∈ l → wayF l w.out = some w
  | a :: l, w, hp, hm => by
    rw [List.pairwise_cons] at hp
    unfold wayF
    rw [List.find?_cons]
    rcases List.mem_cons.1 hm with rfl | hm
    · simp
    · have := hp.1 w hm
      have e : (a.out == w.out) = false := beq_eq_false_iff_ne.2 this
      simp only [e]
      exact wayF_mem hp.2 hm

section
variable {p : Plan} {n : Net}

/-! ### the roads of a signal are roads -/
/-- A road that goes on from steps. -/
structure OnR (p : Plan) (a s : Int) (x : Port) (st : List Step) (nd : List Need) (r : Road) (t : List Step) : Prop where
  frm : r.frm = s
  guards : r.guards = []
  zone : r.zone = []
  holds : r.holds = []
  bare : r.bare = false
  steps : r.steps = st ++ t
  ne : t ≠ []
  len : r.steps.length ≤ 12
  all : stepsF p a (some x) st nd t = some r.needs
  tail : ∀ l, t.getLast? = some l → tailF p r.fin r.to l = true

theorem onF_road (s a : Int) : ∀ (k : Nat) (st : List Step) (nd : List Need) (x : Port) (r : Road), st.length + k = 13 → r ∈ onF p s k st nd x (a :: st.map (·.elem)) → ∃ t, OnR p a s x st nd r t ∧ ∃ u t', t = u :: t' ∧ u.elem = x.elem ∧ u.in_ = x.fin
  | 0, st, nd, x, r, hk, hr => by simp [onF] at hr
  | k + 1, st, nd, x, r, hk, hr => by
    rw [onF_succ] at hr
    by_cases hm : x.elem ∈ a :: st.map (·.elem) ∨ st.length = 12
    · rw [if_pos hm] at hr; simp at hr
    · rw [if_neg hm] at hr
      have hm1 : x.elem ∉ a :: st.map (·.elem) := fun h => hm (.inl h)
      have hm2 : ¬ (x.elem ≠ x.elem ∨ x.fin ≠ x.fin ∨ x.elem = a ∨ x.elem ∈ st.map (·.elem)) := by
        rintro (h1 | h1 | h1 | h1)
        · exact h1 rfl
        · exact h1 rfl
        · exact hm1 (by rw [h1]; simp)
        · exact hm1 (List.mem_cons_of_mem _ h1)
      have hlen : st.length < 12 := by
        have : st.length ≠ 12 := fun h => hm (.inr h)
        omega
      by_cases k4 : kindP p x.elem = 4
      · rw [if_pos k4] at hr
        simp at hr
        subst hr
        refine ⟨[⟨x.elem, x.fin, -1⟩], ⟨rfl, rfl, rfl, rfl, rfl, rfl, by simp, by simp [mkR]; omega, ?_, ?_⟩, _, _, rfl, rfl, rfl⟩
        · simp only [stepsF, if_neg hm2, if_pos k4, mkR, true_and, if_true]
        · intro l hl
          simp at hl
          subst hl
          simp [tailF, k4, mkR]
      · rw [if_neg k4] at hr
        obtain ⟨w, hw, hr⟩ := List.mem_flatMap.1 hr
        have hway := wayF_mem (outs_dist p x.elem x.fin) hw
        unfold wayR at hr
        by_cases hrd : 0 ≤ readsP p ⟨x.elem, w.out⟩
        · rw [if_pos hrd] at hr
          simp at hr
          subst hr
          refine ⟨[⟨x.elem, x.fin, w.out⟩], ⟨rfl, rfl, rfl, rfl, rfl, rfl, by simp, by simp [mkR]; omega, ?_, ?_⟩, _, _, rfl, rfl, rfl⟩
          · unfold stepsF; rw [if_neg hm2, if_neg k4, hway]; simp [stepsF, mkR]
          · intro l hl
            simp at hl
            subst hl
            simp [tailF, k4, mkR, hrd]
        · rw [if_neg hrd] at hr
          cases hnx : nextP p ⟨x.elem, w.out⟩ with
          | none =>
            rw [hnx] at hr
            simp at hr
            subst hr
            refine ⟨[⟨x.elem, x.fin, w.out⟩], ⟨rfl, rfl, rfl, rfl, rfl, rfl, by simp, by simp [mkR]; omega, ?_, ?_⟩, _, _, rfl, rfl, rfl⟩
            · unfold stepsF; rw [if_neg hm2, if_neg k4, hway]; simp [stepsF, mkR]
            · intro l hl
              simp at hl
              subst hl
              simp [tailF, k4, mkR, hrd, hnx]
          | some y =>
            rw [hnx] at hr
            have hmm : a :: st.map (·.elem) ++ [x.elem] = a :: (st ++ [(⟨x.elem, x.fin, w.out⟩ : Step)]).map (·.elem) := by simp
            simp only at hr
            rw [hmm] at hr
            obtain ⟨t, ht, u, t', htu, -, -⟩ := onF_road s a k (st ++ [⟨x.elem, x.fin, w.out⟩]) (addN nd x.elem w.pos) y r (by simp; omega) hr
            refine ⟨⟨x.elem, x.fin, w.out⟩ :: t, ⟨ht.frm, ht.guards, ht.zone, ht.holds, ht.bare, by rw [ht.steps]; simp, by simp, ht.len, ?_, ?_⟩, _, _, rfl, rfl, rfl⟩
            · unfold stepsF
              rw [if_neg hm2, if_neg k4, hway]
              dsimp only
              rw [if_neg (fun h => hrd h.2), hnx]
              exact ht.all
            · intro l hl
              refine ht.tail l ?_
              rw [htu] at hl ⊢
              rwa [List.getLast?_cons_cons] at hl

theorem ofF_road {s : Int} {r : Road} (h : r ∈ ofF p s) : isF p r = true ∧ r.frm = s ∧ r.guards = [] ∧ r.zone = [] ∧ r.holds = [] ∧ r.bare = false ∧ r.steps.length ≤ 12 ∧ 1 ≤ r.steps.length ∧ r.needs.length ≤ 12 := by
  unfold ofF at h
  cases hi : idx p.signals s with
  | none => rw [hi] at h; simp at h
  | some sg =>
    rw [hi] at h
    simp only at h
    cases hx : nextP p sg.at_ with
    | none => rw [hx] at h; simp at h
    | some y =>
      rw [hx] at h
      simp only at h
      obtain ⟨t, ht, -⟩ := onF_road s sg.at_.elem 13 [] [] y r rfl (by simpa using h)
      have hst : r.steps = t := by rw [ht.steps]; rfl
      have hlen : 1 ≤ r.steps.length := by
        rw [hst]
        exact List.length_pos_iff.2 ht.ne
      have hl2 := ht.len
      have hnl := stepsF_len ht.all
      rw [← hst] at hnl
      simp only [List.length_nil] at hnl
      refine ⟨?_, ht.frm, ht.guards, ht.zone, ht.holds, ht.bare, ht.len, hlen, by omega⟩
      unfold isF
      rw [ht.frm, hi]
      simp only
      rw [if_neg (by omega), hx, hst, ht.all]
      obtain ⟨l, hl⟩ : ∃ l, t.getLast? = some l := by
        rw [List.getLast?_eq_getElem?]
        rw [hst] at hlen
        exact ⟨_, List.getElem?_eq_getElem (by omega)⟩
      simp only [hl, ht.tail l hl, decide_true, Bool.and_true]

/-! ### none is told twice -/
end
end Go.E
/- Plain Lean: RoadOfs, RoadAlls, RoadIsOne, RoadTurned and RoadEach answer true, for every argument. No condition. -/
namespace Go.E
open Go

theorem mod_ok {a n : Int} (ha : 0 ≤ a) (hn : 0 < n) : ∃ r, modI a n = some r ∧ 0 ≤ r ∧ r < n := by
  unfold modI
  rw [if_neg (by omega)]
  exact ⟨_, rfl, Int.tmod_nonneg _ ha, by rw [Int.tmod_eq_emod_of_nonneg ha]; exact Int.emod_lt_of_pos _ hn⟩

theorem u8w {n : Int} (h : (Lit.int .u8 n).wf = true) : 0 ≤ n ∧ n ≤ 255 ∧ wi64 n = n := by
  have : 0 ≤ n ∧ n ≤ 255 := by simpa [Lit.wf, IntKind.min, IntKind.max, IntKind.signed, IntKind.bits] using h
  exact ⟨this.1, this.2, by rw [wi64_id] <;> omega⟩

section
variable {p : Plan} {n : Net}

theorem ofF_len (s : Int) : (ofF p s).length ≤ 2 ^ 13 := by
  unfold ofF
  split
  · simp
  · split
    · simp
    · exact onF_len p s 13 _ _ _ _

end

end Go.E
/- Plain Lean: RoadRuns answers true, for every argument. No condition. -/
namespace Go.E
open Go

/-- The position of an element, as it is told. -/
def lieW (pos : List Int) (e : Int) : Int := (idx pos e).getD 0

theorem walk_lies_eq (pos : List Int) (e : Int) : g_walk_lies pos e = some (lieW pos e) := by
  unfold g_walk_lies lieW
  by_cases h1 : e < 0
  · simp [h1, idx_none (.inl h1)]
  · by_cases h2 : (pos.length : Int) ≤ e
    · simp [h1, h2, idx_none (.inr h2)]
    · obtain ⟨a, ha⟩ := idx_of (l := pos) (n := e) (by omega) (by omega)
      simp [h1, h2, ha]

/-- The next heading. -/
def stepW (p : Plan) (pos : List Int) (h : Port) : Port × Int := match nextP p h with
  | none => (⟨0, 0⟩, 3)
  | some x => if kindP p x.elem = 4 then (⟨0, 0⟩, 2) else match throughP p x.elem x.fin (lieW pos x.elem) with
    | none => (⟨0, 0⟩, 4)
    | some o => (⟨x.elem, o⟩, 0)

def runW (p : Plan) (pos : List Int) : Nat → Port → List Port × Int
  | 0, h => ([], if (stepW p pos h).2 ≠ 0 then (stepW p pos h).2 else 5)
  | m + 1, h => if (stepW p pos h).2 ≠ 0 then ([], (stepW p pos h).2) else ((stepW p pos h).1 :: (runW p pos m (stepW p pos h).1).1, (runW p pos m (stepW p pos h).1).2)

section
variable {p : Plan} {n : Net}

theorem walk_Step_eq (hn : NetOf p n) (pos : List Int) (h : Port) : g_walk_Step n pos h = some (stepW p pos h) := by
  unfold g_walk_Step stepW
  simp only [net_Next hn, Option.bind_some]
  cases nextP p h with
  | none => rfl
  | some x =>
    simp only [Option.isSome_some, Option.getD_some, Bool.not_true, cond_false, net_Kind hn, Option.bind_some, cbeq]
    by_cases k4 : kindP p x.elem = 4
    · simp only [if_pos k4]
    · simp only [if_neg k4, walk_lies_eq, net_Through hn, Option.bind_some]
      cases throughP p x.elem x.fin (lieW pos x.elem) with
      | none => rfl
      | some o => rfl

theorem Run_loop (hn : NetOf p n) (pos : List Int) (m : Nat) (hm : m ≤ 1000) : ∀ (k : Nat) (h : Port) (out : List Port), out.length + k = m →
    loopR (g_walk_Run_l1 n pos (m : Int)) (h.elem, h.fin, out) = some (out ++ (runW p pos k h).1, (runW p pos k h).2) := by
  have hmost : (if (if 1000 < (m : Int) then (1000 : Int) else (m : Int)) > 0 then (if 1000 < (m : Int) then (1000 : Int) else (m : Int)) else 0) = (m : Int) := by
    have : (if 1000 < (m : Int) then (1000 : Int) else (m : Int)) = (m : Int) := if_neg (by omega)
    rw [this]
    split <;> omega
  intro k
  induction k with
  | zero =>
    intro h out hk
    refine loopR_inr ?_
    simp only [g_walk_Run_l1, walk_Step_eq hn, Option.bind_some, cbne, hmost, runW]
    by_cases e : (stepW p pos h).2 = 0
    · have : ((out.length : Int) == (m : Int)) = true := by rw [beq_iff_eq]; omega
      simp [e, this]
    · simp [e]
  | succ k ih =>
    intro h out hk
    by_cases e : (stepW p pos h).2 = 0
    · have d : ((out.length : Int) == (m : Int)) = false := by rw [beq_eq_false_iff_ne]; omega
      have ha : appI out [(stepW p pos h).1] = some (out ++ [(stepW p pos h).1]) := appI_ok (by simp; omega)
      rw [loopR_inl (s' := ((stepW p pos h).1.elem, (stepW p pos h).1.fin, out ++ [(stepW p pos h).1])) (by
        simp only [g_walk_Run_l1, walk_Step_eq hn, Option.bind_some, cbne, hmost, if_pos e, d, cond_false, ha]), ih _ _ (by simp; omega)]
      simp only [runW, e, ne_eq, not_true_eq_false, if_false, List.append_assoc, List.singleton_append]
    · refine loopR_inr ?_
      simp [g_walk_Run_l1, walk_Step_eq hn, cbne, e, runW]

theorem walk_Run_eq (hn : NetOf p n) (pos : List Int) (h : Port) (m : Nat) (hm : m ≤ 1000) : g_walk_Run n pos h (m : Int) = some (runW p pos m h) := by
  unfold g_walk_Run
  rw [Run_loop hn pos m hm m h [] (by simp)]
  rfl

theorem outs_cases (p : Plan) (e i : Int) : outsP p e i = [] ∨ (∃ w, outsP p e i = [w]) ∨ outsP p e i = [⟨1, 1⟩, ⟨2, 2⟩] := by
  unfold outsP
  split
  · split
    · exact .inr (.inl ⟨_, rfl⟩)
    · split
      · exact .inr (.inl ⟨_, rfl⟩)
      · split
        · split
          · exact .inr (.inr rfl)
          · exact .inr (.inl ⟨_, rfl⟩)
        · exact .inl rfl
  · exact .inl rfl

theorem through_of {e i x : Int} {w : Way} (hw : w ∈ outsP p e i) (hx : w.pos = 0 ∨ w.pos = x) : throughP p e i x = some w.out := by
  unfold throughP
  rcases outs_cases p e i with h | ⟨v, h⟩ | h
  · rw [h] at hw; simp at hw
  · rw [h] at hw ⊢
    simp at hw
    subst hw
    simp only [throughL, if_pos hx]
  · rw [h] at hw ⊢
    simp at hw
    rcases hw with rfl | rfl
    · simp only [throughL, if_pos hx]
    · have : x = 2 := by simp at hx; omega
      subst this
      simp [throughL]

/-! ### positions as they are needed -/
def lieStep (o : List Int) (nd : Need) : List Int := if 0 ≤ nd.elem ∧ nd.elem < o.length then setI o nd.elem nd.pos else o

theorem lieFold_len : ∀ (l : List Need) (o : List Int), (l.foldl lieStep o).length = o.length
  | [], o => rfl
  | nd :: l, o => by
    rw [List.foldl_cons, lieFold_len l]
    unfold lieStep
    split
    · rw [setI_len]
    · rfl

theorem lieStep_ne {o : List Int} {nd : Need} {e : Int} (h : nd.elem ≠ e) : idx (lieStep o nd) e = idx o e := by
  unfold lieStep
  split
  · rename_i c
    unfold setI
    cases e with
    | negSucc k => rfl
    | ofNat k =>
      show (o.set nd.elem.toNat nd.pos)[k]? = o[k]?
      rw [List.getElem?_set_ne]
      intro h2
      apply h
      have := c.1
      simp only [Int.ofNat_eq_natCast]; omega
  · rfl

theorem lieFold_ne {e : Int} : ∀ (l : List Need) (o : List Int), (∀ nd ∈ l, nd.elem ≠ e) → idx (l.foldl lieStep o) e = idx o e
  | [], o, _ => rfl
  | nd :: l, o, h => by
    rw [List.foldl_cons, lieFold_ne l _ fun m hm => h m (by simp [hm]), lieStep_ne (h nd (by simp))]

theorem lieFold_mem : ∀ (l : List Need) (o : List Int), l.Pairwise (fun a b => a.elem ≠ b.elem) → ∀ nd ∈ l, 0 ≤ nd.elem → nd.elem < o.length → idx (l.foldl lieStep o) nd.elem = some nd.pos
  | a :: l, o, hp, nd, hm, h0, h1 => by
    rw [List.pairwise_cons] at hp
    rw [List.foldl_cons]
    rcases List.mem_cons.1 hm with rfl | hm
    · rw [lieFold_ne l _ fun m hm => fun h => hp.1 m hm h.symm]
      unfold lieStep
      rw [if_pos ⟨h0, h1⟩]
      obtain ⟨k, hk⟩ := Int.eq_ofNat_of_zero_le h0
      rw [hk]
      rw [hk] at h1
      show (o.set (k : Int).toNat nd.pos)[k]? = _
      rw [Int.toNat_natCast, List.getElem?_set_self (by omega)]
    · refine lieFold_mem l _ hp.2 nd hm h0 ?_
      have : (lieStep o a).length = o.length := by have := lieFold_len [a] o; simpa using this
      omega

/-- Positions that lie as they are needed, else as told. -/
theorem Lying_ok (p : Plan) (l : List Need) (pos : List Int) (hp : p.elems.length ≤ 1000) (hl : l.length ≤ 1000) :
    ∃ base : List Int, g_L7_Lying p l pos = some (l.foldl lieStep base) ∧ base.length = p.elems.length ∧ ∀ i : Nat, i < p.elems.length → base[i]? = some ((pos[i]?).getD 0) := by
  unfold g_L7_Lying
  have hmk : mkI (p.elems.length : Int) (0 : Int) = some (List.replicate p.elems.length 0) := by
    unfold mkI
    rw [if_pos ⟨by omega, by omega⟩]; rfl
  rw [hmk]
  simp only [Option.bind_some]
  have needs : ∀ o : List Int, o.length = p.elems.length → loopR (g_L7_Lying_l2 l) (0, o) = some (l.foldl lieStep o) := by
    intro o ho
    refine loop_list (γ := List Int) l (fun k c => ((k : Int), c)) (fun _ c r => some (r.foldl lieStep c)) (fun c => ?_) (fun k c a r ha hi => ?_) o
    · simp [g_L7_Lying_l2]
    · right
      refine ⟨lieStep c a, ?_, by simp⟩
      simp only [g_L7_Lying_l2, dlt ha, cond_true, idx_nat, ha, Option.bind_some]
      unfold lieStep
      by_cases c1 : 0 ≤ a.elem
      · by_cases c2 : a.elem < (c.length : Int)
        · obtain ⟨x, hx⟩ := idx_of c1 c2
          simp only [c1, c2, decide_true, cond_true, Option.bind_some, hx, and_self, if_true, wi64_succ (show k < 1000000000 by omega)]
        · simp only [c1, c2, decide_true, decide_false, cond_true, cond_false, Option.bind_some, and_false, if_false, wi64_succ (show k < 1000000000 by omega)]
      · simp only [c1, decide_false, cond_false, Option.bind_some, false_and, if_false, wi64_succ (show k < 1000000000 by omega)]
  have key : ∀ (m i : Nat) (o : List Int), i + m = min p.elems.length pos.length → o.length = p.elems.length → (∀ j : Nat, j < i → o[j]? = some ((pos[j]?).getD 0)) → (∀ j : Nat, i ≤ j → j < p.elems.length → o[j]? = some 0) →
      ∃ base : List Int, loopR (g_L7_Lying_l1 l pos) ((i : Int), o) = some (l.foldl lieStep base) ∧ base.length = p.elems.length ∧ ∀ j : Nat, j < p.elems.length → base[j]? = some ((pos[j]?).getD 0) := by
    intro m
    induction m with
    | zero =>
      intro i o hi ho h1 h2
      refine ⟨o, ?_, ho, fun j hj => ?_⟩
      · rw [loopR_inr (b := l.foldl lieStep o)]
        have : ((bif decide ((i : Int) < (o.length : Int)) then some (decide ((i : Int) < (pos.length : Int))) else some false : Option Bool)) = some false := by
          by_cases c : i < o.length
          · have d1 : decide ((i : Int) < (o.length : Int)) = true := by simp; omega
            have d2 : decide ((i : Int) < (pos.length : Int)) = false := by simp; omega
            simp only [d1, d2, cond_true]
          · have d1 : decide ((i : Int) < (o.length : Int)) = false := by simp; omega
            simp only [d1, cond_false]
        simp only [g_L7_Lying_l1, this, Option.bind_some, cond_false, needs o ho, Option.map_some]
      · by_cases c : j < i
        · exact h1 j c
        · rw [h2 j (by omega) hj, List.getElem?_eq_none (by omega)]; rfl
    | succ m ih =>
      intro i o hi ho h1 h2
      have d1 : decide ((i : Int) < (o.length : Int)) = true := by simp; omega
      have d2 : decide ((i : Int) < (pos.length : Int)) = true := by simp; omega
      have hx : pos[i]? = some (pos[i]'(by omega)) := List.getElem?_eq_getElem _
      have ho2 : o[i]? = some (o[i]'(by omega)) := List.getElem?_eq_getElem _
      rw [loopR_inl (s' := (((i + 1 : Nat) : Int), setI o (i : Int) (pos[i]'(by omega)))) (by
        simp only [g_L7_Lying_l1, d1, d2, cond_true, Option.bind_some, idx_nat, hx, ho2, wi64_succ (show i < 1000000000 by omega)])]
      refine ih (i + 1) _ (by omega) (by rw [setI_len]; exact ho) (fun j hj => ?_) (fun j hj hj2 => ?_)
      · unfold setI
        by_cases c : j = i
        · subst c
          rw [Int.toNat_natCast, List.getElem?_set_self (by omega), hx]; rfl
        · rw [Int.toNat_natCast, List.getElem?_set_ne (by omega)]
          exact h1 j (by omega)
      · unfold setI
        rw [Int.toNat_natCast, List.getElem?_set_ne (by omega)]
        exact h2 j (by omega) hj2
  have := key (min p.elems.length pos.length) 0 (List.replicate p.elems.length 0) (by omega) (by simp) (fun j hj => by omega) (fun j _ hj => by simp [hj])
  exact this

/-! ### the needs of steps -/
theorem stepsF_needs {a : Int} : ∀ {t : List Step} {x : Option Port} {pv : List Step} {nd nd' : List Need}, (∀ m ∈ nd, m.elem ∈ pv.map (·.elem) ∧ kindP p m.elem = 2 ∧ (m.pos = 1 ∨ m.pos = 2)) → nd.Pairwise (fun a b => a.elem ≠ b.elem) → stepsF p a x pv nd t = some nd' →
    (∀ m ∈ nd', m.elem ∈ (pv ++ t).map (·.elem) ∧ kindP p m.elem = 2 ∧ (m.pos = 1 ∨ m.pos = 2)) ∧ nd'.Pairwise (fun a b => a.elem ≠ b.elem) ∧ ∀ m ∈ nd, m ∈ nd'
  | [], x, pv, nd, nd', h1, h2, h => by
    have : nd = nd' := by cases x <;> simpa [stepsF] using h
    subst this
    exact ⟨by simpa using h1, h2, fun m hm => hm⟩
  | s :: r, none, pv, nd, nd', h1, h2, h => by simp [stepsF] at h
  | s :: r, some x, pv, nd, nd', h1, h2, h => by
    unfold stepsF at h
    split at h
    · cases h
    · rename_i hc
      split at h
      · split at h
        · cases h
          exact ⟨fun m hm => ⟨by have := (h1 m hm).1; simp at this ⊢; exact .inl this, (h1 m hm).2⟩, h2, fun m hm => hm⟩
        · cases h
      · cases hw : wayF (outsP p s.elem s.in_) s.out with
        | none => rw [hw] at h; cases h
        | some w =>
          rw [hw] at h
          simp only at h
          split at h
          · cases h
          · have hf := outs_fact (wayF_some hw).1
            have hsub : ∀ m ∈ addN nd s.elem w.pos, m ∈ nd ∨ (m = ⟨s.elem, w.pos⟩ ∧ w.pos ≠ 0) := by
              intro m hm
              unfold addN at hm
              split at hm
              · exact .inl hm
              · rename_i c
                rcases List.mem_append.1 hm with hm | hm
                · exact .inl hm
                · exact .inr ⟨by simpa using hm, c⟩
            have hnot : s.elem ∉ pv.map (·.elem) := fun h => hc (.inr (.inr (.inr h)))
            obtain ⟨g1, g2, g3⟩ := stepsF_needs (nd := addN nd s.elem w.pos) (pv := pv ++ [s]) (fun m hm => by
              rcases hsub m hm with hm | ⟨rfl, hp⟩
              · exact ⟨by have := (h1 m hm).1; simp at this ⊢; exact .inl this, (h1 m hm).2⟩
              · exact ⟨by simp, hf.2.2.2.2.2 hp⟩) (by
              unfold addN
              split
              · exact h2
              · rw [List.pairwise_append]
                refine ⟨h2, by simp, fun m hm q hq => ?_⟩
                simp at hq
                subst hq
                intro he
                simp only at he
                rw [← he] at hnot
                exact hnot (h1 m hm).1) h
            refine ⟨fun m hm => ?_, g2, fun m hm => g3 m ?_⟩
            · have := g1 m hm
              simpa using this
            · unfold addN
              split
              · exact hm
              · exact List.mem_append.2 (.inl hm)

theorem kind_range {e : Int} (h : kindP p e ≠ 0) : 0 ≤ e ∧ e < p.elems.length := by
  unfold kindP at h
  cases hi : idx p.elems e with
  | none => rw [hi] at h; simp at h
  | some a => exact idx_len hi

def portS (s : Step) : Port := ⟨s.elem, s.out⟩

/-- Who runs with the points as steps need them runs over these steps. -/
theorem runs_steps {a : Int} {lie : List Int} : ∀ {t : List Step} {f : Port} {pv : List Step} {nd nd' : List Need} {l : Step}, stepsF p a (nextP p f) pv nd t = some nd' → (∀ m ∈ nd', lieW lie m.elem = m.pos) → (∀ m ∈ nd, m.elem ∈ pv.map (·.elem) ∧ kindP p m.elem = 2 ∧ (m.pos = 1 ∨ m.pos = 2)) → nd.Pairwise (fun a b => a.elem ≠ b.elem) → t.getLast? = some l →
    (kindP p l.elem = 4 → runW p lie (t.length - 1) f = (t.dropLast.map portS, 2)) ∧ (kindP p l.elem ≠ 4 → runW p lie t.length f = (t.map portS, if (stepW p lie (portS l)).2 ≠ 0 then (stepW p lie (portS l)).2 else 5)) ∧ (∀ (i : Nat) s, t[i]? = some s → i + 1 < t.length → readsP p (portS s) < 0)
  | [], f, pv, nd, nd', l, h, _, _, _, hl => by simp at hl
  | s :: r, f, pv, nd, nd', l, h, hlie, hnd, hpw, hl => by
    cases hx : nextP p f with
    | none => rw [hx] at h; simp [stepsF] at h
    | some x =>
      rw [hx] at h
      unfold stepsF at h
      split at h
      · cases h
      · rename_i hc
        have e1 : s.elem = x.elem := Decidable.not_not.1 fun h => hc (.inl h)
        have e2 : s.in_ = x.fin := Decidable.not_not.1 fun h => hc (.inr (.inl h))
        by_cases k4 : kindP p s.elem = 4
        · rw [if_pos k4] at h
          split at h
          · rename_i c
            have hr := c.1
            subst hr
            simp at hl
            subst hl
            refine ⟨fun _ => ?_, fun h => absurd k4 h, fun i u hu hi => by simp at hi⟩
            simp only [List.length_singleton, Nat.sub_self, List.dropLast_singleton, List.map_nil, runW]
            have : stepW p lie f = (⟨0, 0⟩, 2) := by unfold stepW; rw [hx]; simp [← e1, k4]
            rw [this]; simp
          · cases h
        · rw [if_neg k4] at h
          cases hw : wayF (outsP p s.elem s.in_) s.out with
          | none => rw [hw] at h; cases h
          | some w =>
            rw [hw] at h
            simp only at h
            split at h
            · cases h
            · rename_i hrd
              obtain ⟨hw1, hw2⟩ := wayF_some hw
              have hf := outs_fact hw1
              have hnot : s.elem ∉ pv.map (·.elem) := fun h => hc (.inr (.inr (.inr h)))
              have hnd2 : ∀ m ∈ addN nd s.elem w.pos, m.elem ∈ (pv ++ [s]).map (·.elem) ∧ kindP p m.elem = 2 ∧ (m.pos = 1 ∨ m.pos = 2) := by
                intro m hm
                unfold addN at hm
                split at hm
                · exact ⟨by have := (hnd m hm).1; simp at this ⊢; exact .inl this, (hnd m hm).2⟩
                · rename_i c
                  rcases List.mem_append.1 hm with hm | hm
                  · exact ⟨by have := (hnd m hm).1; simp at this ⊢; exact .inl this, (hnd m hm).2⟩
                  · simp at hm
                    subst hm
                    exact ⟨by simp, hf.2.2.2.2.2 c⟩
              have hpw2 : (addN nd s.elem w.pos).Pairwise (fun a b => a.elem ≠ b.elem) := by
                unfold addN
                split
                · exact hpw
                · rw [List.pairwise_append]
                  refine ⟨hpw, by simp, fun m hm q hq => ?_⟩
                  simp at hq
                  subst hq
                  intro he
                  simp only at he
                  rw [← he] at hnot
                  exact hnot (hnd m hm).1
              obtain ⟨-, -, hsub⟩ := stepsF_needs hnd2 hpw2 h
              have hthr : throughP p x.elem x.fin (lieW lie x.elem) = some s.out := by
                rw [← e1, ← e2, ← hw2]
                refine through_of hw1 ?_
                by_cases c : w.pos = 0
                · exact .inl c
                · right
                  have := hlie ⟨s.elem, w.pos⟩ (hsub _ (by unfold addN; rw [if_neg c]; simp))
                  exact this.symm
              have hstep : stepW p lie f = (portS s, 0) := by
                unfold stepW
                rw [hx]
                simp only
                rw [if_neg (by rw [← e1]; exact k4), hthr]
                simp [portS, e1]
              cases r with
              | nil =>
                simp at hl
                subst hl
                refine ⟨fun h => absurd h k4, fun _ => ?_, fun i u hu hi => by simp at hi⟩
                show runW p lie (0 + 1) f = _
                simp only [runW, hstep, ne_eq, not_true_eq_false, if_false, List.map_cons, List.map_nil]
              | cons s2 r2 =>
                rw [List.getLast?_cons_cons] at hl
                obtain ⟨g1, g2, g3⟩ := runs_steps (f := ⟨s.elem, s.out⟩) h hlie hnd2 hpw2 hl
                refine ⟨fun hk => ?_, fun hk => ?_, fun i u hu hi => ?_⟩
                · have g1 := g1 hk
                  simp only [List.length_cons, Nat.add_sub_cancel] at g1 ⊢
                  simp only [runW, hstep, ne_eq, not_true_eq_false, if_false, portS]
                  rw [g1]
                  simp [portS]
                · have g2 := g2 hk
                  simp only [List.length_cons] at g2 ⊢
                  rw [runW]
                  simp only [hstep, ne_eq, not_true_eq_false, if_false, portS]
                  rw [g2]
                  simp [portS]
                · cases i with
                  | zero =>
                    simp at hu
                    subst hu
                    have : ¬ 0 ≤ readsP p ⟨s.elem, s.out⟩ := fun h => hrd ⟨by simp, h⟩
                    simp only [portS]; omega
                  | succ i => exact g3 i u (by simpa using hu) (by simpa using hi)

theorem isF_parts {r : Road} (h : isF p r = true) : ∃ sg nd l, idx p.signals r.frm = some sg ∧ 1 ≤ r.steps.length ∧ r.steps.length ≤ 12 ∧ stepsF p sg.at_.elem (nextP p sg.at_) [] [] r.steps = some nd ∧ r.steps.getLast? = some l ∧ tailF p r.fin r.to l = true ∧ r.needs = nd := by
  unfold isF at h
  cases hi : idx p.signals r.frm with
  | none => rw [hi] at h; cases h
  | some sg =>
    rw [hi] at h
    simp only at h
    split at h
    · cases h
    · cases hs : stepsF p sg.at_.elem (nextP p sg.at_) [] [] r.steps with
      | none => rw [hs] at h; cases h
      | some nd =>
        rw [hs] at h
        cases hl : r.steps.getLast? with
        | none => rw [hl] at h; cases h
        | some l =>
          rw [hl] at h
          simp only [Bool.and_eq_true, decide_eq_true_eq] at h
          exact ⟨sg, nd, l, rfl, by omega, by omega, hs, rfl, h.1, h.2⟩

end
end Go.E
/- Plain Lean: RoadRuns answers true, for every argument. No condition. -/
namespace Go.E
open Go

section
variable {p : Plan} {n : Net}
theorem reads_at {x : Port} {i : Nat} (h : readsP p x = (i : Int)) : ∃ s, p.signals[i]? = some s ∧ s.at_ = x := by
  rcases readsF_spec x p.signals 0 with ⟨h1, _⟩ | ⟨k, s, h1, h2, h3, _⟩
  · unfold readsP at h; rw [h1] at h; omega
  · unfold readsP at h; rw [h3] at h
    have : k = i := by omega
    subst this
    exact ⟨s, h1, h2⟩

theorem reads_next (hv : Valid p) {x : Port} (h : 0 ≤ readsP p x) : ∃ y, nextP p x = some y ∧ kindP p y.elem ≠ 4 := by
  obtain ⟨i, hi⟩ := Int.eq_ofNat_of_zero_le h
  obtain ⟨s, h1, h2⟩ := reads_at hi
  obtain ⟨y, h3, h4⟩ := hv.sig.next i s h1
  rw [h2] at h3
  exact ⟨y, h3, h4⟩

/-- The roads' steps and the run, one beside the other. -/
theorem Runs_l2 (hn : NetOf p n) {l : List Road} {j : Nat} {r : Road} (hr : l[j]? = some r) (hj : j < 1000000) (hs : r.steps.length ≤ 12) (R : List Port) (e : Int) (m : Nat) (hm : m ≤ r.steps.length) (hR : ∀ (i : Nat) s, i < m → r.steps[i]? = some s → R[i]? = some (portS s))
    (hd : ∀ (i : Nat) s, i < m → r.steps[i]? = some s → decide (0 ≤ readsP p (portS s)) = if i + 1 = m then decide (r.fin = 1) else false) :
    loopR (g_L7_RoadRuns_l2 n l (j : Int) (m : Int) (R, e)) 0 = some (.inl ((j + 1 : Nat) : Int)) := by
  have key : ∀ (k i : Nat), i + k = m → loopR (g_L7_RoadRuns_l2 n l (j : Int) (m : Int) (R, e)) (i : Int) = some (.inl ((j + 1 : Nat) : Int)) := by
    intro k
    induction k with
    | zero =>
      intro i hi
      refine loopR_inr ?_
      have d : decide ((i : Int) < (m : Int)) = false := by simp; omega
      simp only [g_L7_RoadRuns_l2, d, cond_false, wi64_succ (show j < 1000000000 by omega)]
    | succ k ih =>
      intro i hi
      have d : decide ((i : Int) < (m : Int)) = true := by simp; omega
      have hsi : r.steps[i]? = some (r.steps[i]'(by omega)) := List.getElem?_eq_getElem _
      have hRi : R[i]? = some ⟨(r.steps[i]'(by omega)).elem, (r.steps[i]'(by omega)).out⟩ := hR i _ (by omega) hsi
      have hdi : decide (0 ≤ readsP p ⟨(r.steps[i]'(by omega)).elem, (r.steps[i]'(by omega)).out⟩) = if i + 1 = m then decide (r.fin = 1) else false := hd i _ (by omega) hsi
      have hw : wi64 ((m : Int) - 1) = (m : Int) - 1 := by rw [wi64_id] <;> omega
      rw [← ih (i + 1) (by omega)]
      refine loopR_inl ?_
      by_cases c : i + 1 = m
      · rw [if_pos c] at hdi
        have c2 : ((i : Int) == (m : Int) - 1) = true := by rw [beq_iff_eq]; omega
        have hb : (decide (r.fin = 1)) = (r.fin == 1) := by rw [Bool.beq_eq_decide_eq]
        simp only [g_L7_RoadRuns_l2, d, cond_true, idx_nat, hr, hsi, hRi, Option.bind_some, beq_self_eq_true, Bool.not_true, cond_false, net_Reads hn, hw, c2, wi64_succ (show i < 1000000000 by omega)]
        rw [hdi, hb]
        simp only [beq_self_eq_true, Bool.not_true, cond_false]
      · rw [if_neg c] at hdi
        have c2 : ((i : Int) == (m : Int) - 1) = false := by rw [beq_eq_false_iff_ne]; omega
        simp only [g_L7_RoadRuns_l2, d, cond_true, idx_nat, hr, hsi, hRi, Option.bind_some, beq_self_eq_true, Bool.not_true, cond_false, net_Reads hn, hw, c2, hdi, wi64_succ (show i < 1000000000 by omega)]
  exact key m 0 (by omega)

end

theorem RoadRuns_true (p : Plan) (s : Int) (pos : List Int) (ks : (Lit.int .u8 s).wf = true) : g_L7_RoadRuns p s pos = some true := by
  unfold g_L7_RoadRuns
  simp only [known7, Option.bind_some, Bool.not_true, cond_false]
  obtain ⟨b, h1, h2⟩ := fine_total p
  simp only [h1, Option.bind_some]
  cases b with
  | false => rfl
  | true =>
    have hv := h2 rfl
    obtain ⟨o, h3, h4⟩ := made_total p
    obtain ⟨n, rfl, hn⟩ := h4 h1
    simp only [Bool.not_true, cond_false, h3, Option.bind_some, optM]
    by_cases lp : 100 < pos.length
    · have d : decide (100 < (pos.length : Int)) = true := by simp; omega
      simp only [d, cond_true, Option.bind_some]
    have d : decide (100 < (pos.length : Int)) = false := by simp; omega
    simp only [d, cond_false, Option.bind_some]
    by_cases l0 : p.signals.length = 0
    · have : ((p.signals.length : Int) == 0) = true := by rw [beq_iff_eq]; omega
      simp only [this, cond_true]
    have d : ((p.signals.length : Int) == 0) = false := by rw [beq_eq_false_iff_ne]; omega
    obtain ⟨u1, u2, u3⟩ := u8w ks
    obtain ⟨k, k1, k2, k3⟩ := mod_ok (a := s) (n := (p.signals.length : Int)) u1 (by omega)
    obtain ⟨sg, hsg⟩ := idx_of (l := p.signals) (n := k) k2 k3
    simp only [d, cond_false, u3, k1, Option.bind_some, road_Of_eq hn, net_At_eq hn, hsg]
    have hl := ofF_len (p := p) k
    obtain ⟨b, h5, rfl⟩ := loop_ix (l := ofF p k) (step := g_L7_RoadRuns_l1 p pos n (ofF p k) (sg.at_, true)) (Post := fun b => b = true) (fun _ _ => True)
      (fun _ => ⟨true, by simp only [g_L7_RoadRuns_l1, dge, cond_false], rfl⟩)
      (fun j r hr _ => by
        have hj := ilt hr
        have hmem := List.mem_of_getElem? hr
        obtain ⟨r1, r2, r3, r4, r5, r6, r7, r8, r9⟩ := ofF_road hmem
        obtain ⟨sg2, nd, l, i1, i2, i3, i4, i5, i6, i7⟩ := isF_parts r1
        rw [r2, hsg] at i1
        obtain rfl := Option.some.inj i1
        obtain ⟨g1, g2, -⟩ := stepsF_needs (nd := []) (pv := []) (by simp) (by simp) i4
        rw [← i7] at g1 g2
        obtain ⟨base, b1, b2, b3⟩ := Lying_ok p r.needs pos (by have := hv.ne; omega) (by omega)
        have hlie : ∀ m ∈ nd, lieW (r.needs.foldl lieStep base) m.elem = m.pos := by
          rw [← i7]
          intro m hm
          have hkr := kind_range (p := p) (e := m.elem) (by rw [(g1 m hm).2.1]; decide)
          unfold lieW
          rw [lieFold_mem r.needs base g2 m hm hkr.1 (by omega)]; rfl
        obtain ⟨q1, q2, q3⟩ := runs_steps (nd := []) (pv := []) i4 hlie (by simp) (by simp) i5
        have hdl : decide ((r.steps.length : Int) < 1000000) = true := by simp; omega
        have hlast : r.steps[r.steps.length - 1]? = some l := by rw [← List.getLast?_eq_getElem?]; exact i5
        refine .inr ⟨?_, trivial⟩
        by_cases k4 : kindP p l.elem = 4
        · have hfin : r.fin = 2 := by
            unfold tailF at i6; rw [if_pos k4] at i6
            simp at i6; exact i6.1
          have hw : wi64 ((r.steps.length : Int) - 1) = ((r.steps.length - 1 : Nat) : Int) := by rw [wi64_id] <;> omega
          have hl2 := Runs_l2 hn hr (by omega) i3 (r.steps.dropLast.map portS) 2 (r.steps.length - 1) (by omega) (fun i u hi hu => by
            rw [List.getElem?_map, List.getElem?_dropLast, if_pos hi, hu]; rfl) (fun i u hi hu => by
            have := q3 i u hu (by omega)
            have d0 : decide (0 ≤ readsP p (portS u)) = false := by simp; omega
            rw [d0, hfin]; split <;> rfl)
          have hlen : ((r.steps.dropLast.map portS).length : Int) = ((r.steps.length - 1 : Nat) : Int) := by simp
          have e1 : ((2 : Int) == 3) = false := by decide
          simp only [g_L7_RoadRuns_l1, dlt hr, cond_true, idx_nat, hr, Option.bind_some, b1, hfin, beq_self_eq_true, hw, walk_Run_eq hn _ _ _ (show r.steps.length - 1 ≤ 1000 by omega), q1 k4, hlen, bne_self_eq_false, cond_false, Bool.not_true, e1]
          exact hl2
        · have q2 := q2 k4
          have hread : decide (0 ≤ readsP p (portS l)) = decide (r.fin = 1) ∧ (r.fin = 1 ∨ r.fin = 3) ∧ (r.fin = 3 → nextP p (portS l) = none) := by
            unfold tailF at i6; rw [if_neg k4] at i6
            split at i6
            · rename_i c
              simp at i6
              have : 0 ≤ readsP p (portS l) := c
              simp [this, i6.1]
            · rename_i c
              simp at i6
              have : ¬ 0 ≤ readsP p (portS l) := c
              refine ⟨by simp [this, i6.2.1], .inr i6.2.1, fun _ => ?_⟩
              have h := i6.1
              unfold portS
              cases hnx : nextP p ⟨l.elem, l.out⟩ with
              | none => rfl
              | some y => rw [hnx] at h; simp at h
          obtain ⟨hr1, hr2, hr3⟩ := hread
          have hfin : r.fin ≠ 2 := by omega
          generalize hE : (if (stepW p (r.needs.foldl lieStep base) (portS l)).2 ≠ 0 then (stepW p (r.needs.foldl lieStep base) (portS l)).2 else 5) = E at q2
          have hE2 : E ≠ 2 ∧ (r.fin = 3 → E = 3) := by
            rw [← hE]
            by_cases f1 : r.fin = 1
            · have h0 : 0 ≤ readsP p (portS l) := by
                rw [f1] at hr1
                simpa using hr1
              obtain ⟨y, y1, y2⟩ := reads_next hv h0
              refine ⟨?_, fun h => by omega⟩
              unfold stepW
              rw [y1]
              simp only [if_neg y2]
              cases throughP p y.elem y.fin (lieW (r.needs.foldl lieStep base) y.elem) <;> simp
            · have f3 : r.fin = 3 := by omega
              have : stepW p (r.needs.foldl lieStep base) (portS l) = (⟨0, 0⟩, 3) := by unfold stepW; rw [hr3 f3]
              rw [this]; simp
          have hl2 := Runs_l2 hn hr (by omega) i3 (r.steps.map portS) E r.steps.length (by omega) (fun i u hi hu => by
            rw [List.getElem?_map, hu]; rfl) (fun i u hi hu => by
            by_cases c : i + 1 = r.steps.length
            · rw [if_pos c]
              have : i = r.steps.length - 1 := by omega
              rw [this, hlast] at hu
              obtain rfl := Option.some.inj hu
              exact hr1
            · rw [if_neg c]
              have := q3 i u hu (by omega)
              simp; omega)
          have hlen : ((r.steps.map portS).length : Int) = (r.steps.length : Int) := by simp
          have e1 : (r.fin == 2) = false := beq_eq_false_iff_ne.2 hfin
          have e2 : (E == 2) = false := beq_eq_false_iff_ne.2 hE2.1
          have e3 : (bif r.fin == 3 then some (E != 3) else some false : Option Bool) = some false := by
            by_cases f3 : r.fin = 3
            · simp [f3, hE2.2 f3]
            · rw [beq_eq_false_iff_ne.2 f3]; rfl
          simp only [g_L7_RoadRuns_l1, dlt hr, cond_true, idx_nat, hr, Option.bind_some, b1, e1, e2, cond_false, walk_Run_eq hn _ _ _ (show r.steps.length ≤ 1000 by omega), q2, hlen, bne_self_eq_false, beq_self_eq_true, Bool.not_true, e3]
          exact hl2)
    exact h5

end Go.E
/- Plain Lean: RoadWhole answers true, for every argument. No condition. -/
namespace Go.E
open Go

section
variable {p : Plan} {n : Net}

/-! ### the run to the first signal -/
end
end Go.E
/- Plain Lean: RoadWhole answers true, for every argument. No condition. -/
namespace Go.E
open Go

section
variable {p : Plan} {n : Net}

end

end Go.E
