/- Plain Lean: the net that the program makes of a valid plan. No condition. -/
import Derived.KernelRfl
import Derived.Test.YtdppdkjoaanpnaaGreatJ5
set_option linter.unusedVariables false
set_option linter.unusedSimpArgs false
namespace Go.E
open Go

/-- A net of a plan: what it says of ports and signals is what the plan says. -/
structure NetOf (p : Plan) (n : Net) : Prop where
  plan : n.p = p
  next : ∀ x, assoc n.next x = nextP p x
  reads : ∀ x, assoc n.reads x = if 0 ≤ readsP p x then some (readsP p x) else none

theorem clone_eq {α : Type} [DecidableEq α] (l : List α) (h : l.length ≤ 1000000) : nilS l (some []) ((appI ([] : List α) l).bind fun y => some y) = some l := by
  rw [appI_ok (by simp; omega)]
  cases l with
  | nil => simp [nilS, agree]
  | cons a l => rfl

theorem twin_eq (p : Plan) (hf : FewP p) : g_net_twin p = some p := by
  have q1 := hf.elems; have q2 := hf.joins; have q3 := hf.signals; have q4 := hf.lines
  have c1 : g_slices_Clone_apiElem p.elems = some p.elems := clone_eq _ (by omega)
  have c2 : g_slices_Clone_apiJoin p.joins = some p.joins := clone_eq _ (by omega)
  have c3 : g_slices_Clone_apiSignal p.signals = some p.signals := clone_eq _ (by omega)
  have c4 : g_slices_Clone_apiLine p.lines = some p.lines := clone_eq _ (by omega)
  unfold g_net_twin
  simp only [c1, c2, c3, c4, Option.bind_some]
  obtain ⟨b, hb, rfl⟩ := loop_st (l := p.lines) (step := g_net_twin_l1 p p.elems p.joins p.signals p.lines) (Post := fun b => b = p) (fun i c => c = p.lines) (fun c hc => by
      subst hc; exact ⟨p, by simp only [g_net_twin_l1, dge, cond_false], rfl⟩) (fun i a c ha hc => by
      subst hc
      have := ilt ha
      have hal := (hf.line i a ha).1
      have c5 : g_slices_Clone_int a.elems = some a.elems := clone_eq _ (by omega)
      refine .inr ⟨p.lines, ?_, rfl⟩
      simp only [g_net_twin_l1, dlt ha, cond_true, idx_nat, ha, Option.bind_some, c5, wi64_succ (show i < 1000000000 by omega)]
      have : setI p.lines (i : Int) (⟨a.name, a.elems⟩ : Line) = p.lines := by
        unfold setI
        apply List.ext_getElem?
        intro k
        rw [List.getElem?_set]
        split
        · rename_i h; simp only [Int.toNat_natCast] at h; subst h; split
          · exact ha.symm
          · rename_i h2; simp at h2; omega
        · rfl
      rw [this]) (c := p.lines) rfl
  exact hb

theorem readsF_app (x : Port) (s : Signal) : ∀ (l : List Signal) (i : Nat), readsF x i (l ++ [s]) = if 0 ≤ readsF x i l then readsF x i l else if s.at_ = x then ((i + l.length : Nat) : Int) else -1
  | [], i => by simp [readsF]
  | t :: l, i => by
    by_cases h : t.at_ = x
    · simp [readsF, h]
    · have e : ∀ r, readsF x i (t :: r) = readsF x (i + 1) r := fun r => by simp [readsF, h]
      simp only [List.cons_append, e, readsF_app x s l (i + 1), List.length_cons]
      rw [show i + 1 + l.length = i + (l.length + 1) by omega]

theorem new_lines (p y15 : Plan) (hf : FewP p) (s58 : Int × List (Port × Port)) (s140 : Int × List (Port × Int)) : ∃ a b, loopR (g_net_New_l3 p y15 s58 s140) (0, [], []) = some (some ⟨y15, s58.2, s140.2, a, b⟩, 0) := by
  have q4 := hf.lines
  obtain ⟨r, hr, a, b, rfl⟩ : ∃ r, loopR (g_net_New_l3 p y15 s58 s140) (0, [], []) = some r ∧ ∃ a b, r = (some ⟨y15, s58.2, s140.2, a, b⟩, 0) := by
    refine loop_st (l := p.lines) (fun _ _ => True) (fun c _ => ⟨_, by simp only [g_net_New_l3, dge, cond_false], c.1, c.2, rfl⟩) (fun i l c h _ => ?_) (c := (([], []) : List (Int × Arr2Int) × List (Int × Int))) trivial
    have := ilt h
    have hal := (hf.line i l h).1
    obtain ⟨t, ht⟩ : ∃ t : Int, ((bif decide (1 < (l.elems.length : Int)) then (idx l.elems 0).bind fun y1186 => ((bif (assoc s58.2 (⟨y1186, 0⟩ : Port)).isSome then (idx l.elems 1).bind fun y1195 => some ((((assoc s58.2 (⟨y1186, 0⟩ : Port)).getD (⟨0, 0⟩ : Port)).elem) == y1195) else some false : Option (Bool))).bind fun (t1192 : Bool) => bif t1192 then some 1 else some 0 else some 0 : Option (Int))) = some t := by
      match hl : l.elems with
      | [] => exact ⟨0, by simp⟩
      | [a] => exact ⟨0, by simp⟩
      | a :: b :: r =>
        have hd : decide (1 < ((a :: b :: r).length : Int)) = true := by simp; omega
        have i0 : idx (a :: b :: r) 0 = some a := rfl
        have i1 : idx (a :: b :: r) 1 = some b := rfl
        simp only [hd, cond_true, i0, i1, Option.bind_some]
        cases (assoc s58.2 (⟨a, 0⟩ : Port)).isSome with
        | false => exact ⟨0, rfl⟩
        | true =>
          simp only [cond_true, Option.bind_some]
          cases ((assoc s58.2 (⟨a, 0⟩ : Port)).getD (⟨0, 0⟩ : Port)).elem == b with
          | false => exact ⟨0, rfl⟩
          | true => exact ⟨1, rfl⟩
    refine .inr ?_
    simp only [g_net_New_l3, dlt h, cond_true, idx_nat, h, Option.bind_some, ht]
    obtain ⟨r, hr, c', rfl⟩ : ∃ r, loopR (g_net_New_l4 s58 ((i : Int), c) l) (t, 0, c.1, c.2) = some r ∧ ∃ c', r = .inl (((i + 1 : Nat) : Int), c') := by
      refine loop_up (fun k s => s.2.1 = (k : Int) ∧ k ≤ l.elems.length) l.elems.length ?_ ⟨rfl, Nat.zero_le _⟩
      rintro k ⟨x, j, d1, d2⟩ ⟨hj, hk⟩
      simp only at hj
      subst hj
      by_cases he : k = l.elems.length
      · subst he
        exact .inl ⟨.inl (((i + 1 : Nat) : Int), d1, d2), by simp only [g_net_New_l4, dge, cond_false, wi64_succ (show i < 1000000000 by omega)], (d1, d2), rfl⟩
      · have ha : l.elems[k]? = some (l.elems[k]'(by omega)) := List.getElem?_eq_getElem _
        exact .inr ⟨by omega, (((assoc s58.2 (⟨l.elems[k]'(by omega), wi64 (1 - x)⟩ : Port)).getD (⟨0, 0⟩ : Port)).fin, ((k + 1 : Nat) : Int), aput (l.elems[k]'(by omega)) (⟨(i : Int), (k : Int)⟩ : Arr2Int) d1, aput (l.elems[k]'(by omega)) x d2), by simp only [g_net_New_l4, dlt ha, cond_true, idx_nat, ha, Option.bind_some, wi64_succ (show k < 1000000000 by omega)], rfl, by omega⟩
    exact ⟨c', hr, trivial⟩
  exact ⟨a, b, hr⟩

theorem new_ok (p : Plan) (hv : Valid p) : ∃ n, g_net_New p = some (some n, 0) ∧ NetOf p n := by
  have q2 := hv.few.joins; have q3 := hv.few.signals
  unfold g_net_New
  simp only [plan_check_ok p hv, Option.bind_some, bne_self_eq_false, cond_false, twin_eq p hv.few]
  have l2 : ∀ s58 : Int × List (Port × Port), (∀ x, assoc s58.2 x = nextP p x) → ∃ r, loopR (g_net_New_l2 p p s58) (0, []) = some r ∧ ∃ n, r = (some n, 0) ∧ NetOf p n := by
    intro s58 hs
    refine loop_st (l := p.signals) (fun i c => ∀ x, assoc c x = if 0 ≤ readsF x 0 (p.signals.take i) then some (readsF x 0 (p.signals.take i)) else none) (fun c hI => ?_) (fun i s c h hI => ?_) (c := []) (fun x => by simp [assoc, readsF])
    · rw [List.take_length] at hI
      obtain ⟨a, b, hr⟩ := new_lines p p hv.few s58 ((p.signals.length : Int), c)
      exact ⟨_, by simp only [g_net_New_l2, dge, cond_false, hr]; rfl, _, rfl, ⟨rfl, hs, hI⟩⟩
    · have := ilt h
      refine .inr ⟨aput s.at_ (i : Int) c, by simp only [g_net_New_l2, dlt h, cond_true, idx_nat, h, Option.bind_some, wi64_succ (show i < 1000000000 by omega)], fun x => ?_⟩
      have hlen : (p.signals.take i).length = i := by rw [List.length_take]; omega
      rw [assoc_aput', List.take_add_one, h]
      simp only [Option.toList_some, readsF_app, hI, hlen]
      by_cases hx : x = s.at_
      · subst hx
        have hr := hv.sig.reads i s h
        have hnot : ¬ 0 ≤ readsF s.at_ 0 (p.signals.take i) := by
          intro h0
          rcases readsF_spec s.at_ (p.signals.take i) 0 with ⟨h1, _⟩ | ⟨k, t, h1, h2, _, _⟩
          · omega
          · obtain ⟨j, hj, hjt⟩ := mem_take (List.mem_of_getElem? h1)
            have := hv.sig.reads j t hjt
            rw [h2, hr] at this
            omega
        rw [if_pos rfl, if_neg hnot, if_pos rfl, if_pos (by omega)]
        simp
      · have hx' : ¬ s.at_ = x := fun e => hx e.symm
        by_cases h0 : 0 ≤ readsF x 0 (p.signals.take i)
        · simp only [if_neg hx, if_pos h0]
        · simp only [if_neg hx, if_neg h0, if_neg hx']; rfl
  obtain ⟨r, hr, n, rfl, hn⟩ : ∃ r, loopR (g_net_New_l1 p p) (0, []) = some r ∧ ∃ n, r = (some n, 0) ∧ NetOf p n := by
    refine loop_st (l := p.joins) (fun i c => ∀ x, assoc c x = nextL (p.joins.take i) x) (fun c hI => ?_) (fun i j c h hI => ?_) (c := []) (fun x => by simp [assoc, nextL])
    · rw [List.take_length] at hI
      obtain ⟨r, hr, h⟩ := l2 ((p.joins.length : Int), c) hI
      exact ⟨r, by simp only [g_net_New_l1, dge, cond_false, hr]; rfl, h⟩
    · have := ilt h
      exact .inr ⟨_, by simp only [g_net_New_l1, dlt h, cond_true, idx_nat, h, Option.bind_some, wi64_succ (show i < 1000000000 by omega)], next_step hv.join h hI⟩
  exact ⟨n, hr, hn⟩

theorem made_total (p : Plan) : ∃ o, g_L4_Made p = some o ∧ (g_R6_Fine p = some true → ∃ n, o = some n ∧ NetOf p n) := by
  obtain ⟨b, hb, hv⟩ := fine_total p
  unfold g_L4_Made
  simp only [hb, Option.bind_some]
  cases b with
  | false => exact ⟨none, rfl, fun h => by simp at h⟩
  | true =>
    obtain ⟨n, hn, ho⟩ := new_ok p (hv rfl)
    simp only [hn, Option.bind_some, Bool.not_true, cond_false]
    exact ⟨some n, rfl, fun _ => ⟨n, rfl, ho⟩⟩

end Go.E
/- Plain Lean: what a net says is what the plan says. No condition. -/
namespace Go.E
open Go

theorem g_R6_Kind_eq (p : Plan) (e : Int) : g_R6_Kind p e = some (kindP p e) := by
  unfold g_R6_Kind; rw [g_R6_kind_eq]; rfl

section
variable {p : Plan} {n : Net}
theorem net_elem (h : NetOf p n) (e : Int) : g_net_Net_elem n e = some ((idx p.elems e).getD ⟨ByteArray.empty, 0, 0⟩) := by
  unfold g_net_Net_elem
  rw [h.plan]
  by_cases h1 : e < 0
  · simp [h1, idx_none (.inl h1)]
  · by_cases h2 : (p.elems.length : Int) ≤ e
    · simp [h1, h2, idx_none (.inr h2)]
    · obtain ⟨a, ha⟩ := idx_of (l := p.elems) (n := e) (by omega) (by omega)
      simp [h1, h2, ha]

theorem net_Kind (h : NetOf p n) (e : Int) : g_net_Net_Kind n e = some (kindP p e) := by
  unfold g_net_Net_Kind kindP
  rw [net_elem h]
  cases idx p.elems e <;> rfl

theorem net_Next (h : NetOf p n) (x : Port) : g_net_Net_Next n x = some ((nextP p x).getD ⟨0, 0⟩, (nextP p x).isSome) := by
  unfold g_net_Net_Next; rw [h.next]

theorem readsP_cases (p : Plan) (x : Port) : readsP p x = -1 ∨ (0 ≤ readsP p x ∧ readsP p x < p.signals.length) := by
  rcases readsF_spec x p.signals 0 with ⟨h, _⟩ | ⟨k, s, h1, _, h3, _⟩
  · exact .inl h
  · have := ilt h1
    right
    unfold readsP
    rw [h3]; omega

theorem net_Reads (h : NetOf p n) (x : Port) : g_net_Net_Reads n x = some (readsP p x) := by
  unfold g_net_Net_Reads
  rw [h.reads]
  rcases readsP_cases p x with h1 | ⟨h1, _⟩
  · rw [if_neg (by omega), h1]; rfl
  · rw [if_pos h1]; rfl

/-- The ways through an element. -/
def outsP (p : Plan) (e i : Int) : List Way :=
  if hasP p ⟨e, i⟩ then if kindP p e = 1 then [⟨1 - i, 0⟩] else if kindP p e = 3 then [⟨if i = 0 then 1 else if i = 1 then 0 else if i = 2 then 3 else 2, 0⟩] else if kindP p e = 2 then if i = 0 then [⟨1, 1⟩, ⟨2, 2⟩] else [⟨0, i⟩] else [] else []

theorem R6_Outs_eq (p : Plan) (e i : Int) : g_R6_Outs p e i = some (outsP p e i) := by
  unfold g_R6_Outs outsP
  simp only [g_R6_has_eq, Option.bind_some, g_R6_kind_eq, cbeq]
  cases hh : hasP p ⟨e, i⟩ with
  | false => rfl
  | true =>
    obtain ⟨h1, h2, h3⟩ := hasP_fin hh
    simp only at h1 h2 h3
    simp only [Bool.not_true, cond_false, if_true]
    by_cases k1 : kindP p e = 1
    · simp only [if_pos k1, wi64_id (n := 1 - i) (by omega) (by omega)]
    · by_cases k3 : kindP p e = 3
      · simp only [if_neg k1, if_pos k3]
        have : i = 0 ∨ i = 1 ∨ i = 2 ∨ i = 3 := by omega
        rcases this with rfl | rfl | rfl | rfl <;> rfl
      · by_cases k2 : kindP p e = 2
        · simp only [if_neg k1, if_neg k3, if_pos k2]
          by_cases i0 : i = 0 <;> simp [i0]
        · simp only [if_neg k1, if_neg k3, if_neg k2]

theorem net_Outs (h : NetOf p n) (e i : Int) : g_net_Net_Outs n e i = some (outsP p e i) := by
  unfold g_net_Net_Outs outsP
  simp only [net_Kind h, Option.bind_some, g_plan_Ends_eq, cbeq]
  by_cases h0 : i < 0
  · have : hasP p ⟨e, i⟩ = false := by simp [hasP]; omega
    simp [h0, this]
  · by_cases h1 : endsF (kindP p e) ≤ i
    · have : hasP p ⟨e, i⟩ = false := by simp [hasP]; omega
      simp [h0, h1, this]
    · have hh : hasP p ⟨e, i⟩ = true := by simp [hasP]; omega
      obtain ⟨_, h2, h3⟩ := hasP_fin hh
      simp only at h2 h3
      simp only [h0, h1, decide_false, cond_false, Option.bind_some, hh, if_true]
      by_cases k1 : kindP p e = 1
      · simp only [if_pos k1, wi64_id (n := 1 - i) (by omega) (by omega)]
      · by_cases k3 : kindP p e = 3
        · simp only [if_neg k1, if_pos k3]
          have : i = 0 ∨ i = 1 ∨ i = 2 ∨ i = 3 := by omega
          rcases this with rfl | rfl | rfl | rfl <;> rfl
        · by_cases k2 : kindP p e = 2
          · simp only [if_neg k1, if_neg k3, if_pos k2]
            rw [k2] at h3
            have : i = 0 ∨ i = 1 ∨ i = 2 := by simp [endsF] at h3; omega
            rcases this with rfl | rfl | rfl <;> rfl
          · simp only [if_neg k1, if_neg k3, if_neg k2]

theorem outsP_len (p : Plan) (e i : Int) : (outsP p e i).length ≤ 2 := by
  unfold outsP
  repeat' split
  all_goals simp

end
end Go.E
/- Plain Lean: sorted rows without repetition. No condition. -/
namespace Go.E
open Go

end Go.E
/- The known answers of layer 23, reckoned by the kernel. No condition. -/
namespace Go.E
open Go Go.Proofs
set_option maxRecDepth 100000
theorem known7 : g_L7_known = some true := by kernel_rfl

end Go.E
/- Plain Lean: RoadFinds answers true, for every argument. No condition. -/
namespace Go.E
open Go

/-! ### rows that are one -/
theorem eq_loop {α : Type} [DecidableEq α] {a b : List α} (hl : a.length = b.length) (hb : a.length < 1000000) {step : Int → Option (Int ⊕ Bool)}
    (h : ∀ i : Nat, i ≤ a.length → step (i : Int) = if h : i < a.length then (if a[i] = b[i]'(by omega) then some (.inl ((i + 1 : Nat) : Int)) else some (.inr false)) else some (.inr true)) : loopR step 0 = some (decide (a = b)) := by
  by_cases hab : a = b
  · subst hab
    obtain ⟨r, h1, h2⟩ := loop_ix (l := a) (step := step) (Post := fun r => r = true) (fun _ _ => True) (fun _ => ⟨true, by rw [h _ (Nat.le_refl _)]; simp, rfl⟩)
      (fun i x hx _ => .inr ⟨by have := ilt hx; rw [h _ (by omega), dif_pos this, if_pos rfl], trivial⟩)
    rw [h1, h2]; simp
  · obtain ⟨r, h1, h2⟩ := loop_ix (l := a) (step := step) (Post := fun r => r = false) (fun i x => b[i]? = some x) (fun good => by
        exfalso; refine hab (List.ext_getElem hl fun i h1 h2 => ?_)
        have := good i _ (List.getElem?_eq_getElem h1)
        rw [List.getElem?_eq_getElem h2] at this
        exact (Option.some.inj this).symm)
      (fun i x hx _ => by
        have hi := ilt hx
        have hx' : a[i] = x := Option.some.inj ((List.getElem?_eq_getElem hi).symm.trans hx)
        rw [h _ (by omega), dif_pos hi]
        by_cases e : a[i] = b[i]'(by omega)
        · exact .inr ⟨by rw [if_pos e], by rw [List.getElem?_eq_getElem (by omega), ← e, hx']⟩
        · exact .inl ⟨false, by rw [if_neg e], rfl⟩)
    rw [h1, h2]; simp [hab]

theorem eq_step {α : Type} [DecidableEq α] {a b : List α} (hl : a.length = b.length) (hb : a.length < 1000000) (i : Nat) (hi : i ≤ a.length) :
    (bif decide ((i : Int) < (a.length : Int)) then (idx a i).bind fun y => (idx b i).bind fun z => bif (!(y == z)) then some (.inr false) else some (.inl (wi64 ((i : Int) + 1))) else some (.inr true) : Option (Int ⊕ Bool)) =
      if h : i < a.length then (if a[i] = b[i]'(by omega) then some (.inl ((i + 1 : Nat) : Int)) else some (.inr false)) else some (.inr true) := by
  by_cases h : i < a.length
  · have d : decide ((i : Int) < (a.length : Int)) = true := by simpa using h
    have h2 : b[i]? = some (b[i]'(by omega)) := List.getElem?_eq_getElem _
    simp only [d, cond_true, idx_nat, List.getElem?_eq_getElem h, h2, Option.bind_some, dif_pos h, wi64_succ (show i < 1000000000 by omega)]
    by_cases e : a[i] = b[i]'(by omega)
    · simp [e]
    · have : (a[i] == b[i]'(by omega)) = false := beq_eq_false_iff_ne.2 e
      simp only [this, Bool.not_false, cond_true, if_neg e]
  · have d : decide ((i : Int) < (a.length : Int)) = false := by simp; omega
    simp only [d, cond_false, dif_neg h]

theorem len_ne {α : Type} [DecidableEq α] {a b : List α} (h : a.length ≠ b.length) : decide (a = b) = false := by
  simp only [decide_eq_false_iff_not]; intro e; exact h (by rw [e])

theorem eqNeeds (a b : List Need) (hb : a.length < 1000000) : g_slices_Equal_apiNeed a b = some (decide (a = b)) := by
  unfold g_slices_Equal_apiNeed
  rw [cbne]
  split
  · exact eq_loop (by omega) hb fun i hi => by unfold g_slices_Equal_apiNeed_l1; exact eq_step (by omega) hb i hi
  · rw [len_ne (by omega)]

theorem eqNeeds2 (a b : List Need) (hb : a.length < 1000000) : g_R12_SameNeeds a b = some (decide (a = b)) := by
  unfold g_R12_SameNeeds
  rw [cbne]
  split
  · exact eq_loop (by omega) hb fun i hi => by unfold g_R12_SameNeeds_l1; exact eq_step (by omega) hb i hi
  · rw [len_ne (by omega)]

/-- Roads that are looked at. -/
structure LightR (r : Road) : Prop where
  steps : r.steps.length ≤ 1000
  needs : r.needs.length ≤ 1000
  guards : r.guards.length ≤ 1000
  zone : r.zone.length ≤ 1000
  holds : r.holds.length ≤ 1000

theorem light_total (r : Road) : ∃ b, g_L7_Light r = some b ∧ (b = true → LightR r ∧ r.steps.length ≤ 40) := by
  unfold g_L7_Light
  by_cases h1 : (r.steps.length : Int) ≤ 40
  · by_cases h2 : (r.needs.length : Int) ≤ 40
    · by_cases h3 : (r.guards.length : Int) ≤ 40
      · by_cases h4 : (r.zone.length : Int) ≤ 60
        · by_cases h5 : (r.holds.length : Int) ≤ 60
          · exact ⟨true, by simp [h1, h2, h3, h4, h5], fun _ => ⟨⟨by omega, by omega, by omega, by omega, by omega⟩, by omega⟩⟩
          · exact ⟨false, by simp [h1, h2, h3, h4, h5], fun h => by cases h⟩
        · exact ⟨false, by simp [h1, h2, h3, h4], fun h => by cases h⟩
      · exact ⟨false, by simp [h1, h2, h3], fun h => by cases h⟩
    · exact ⟨false, by simp [h1, h2], fun h => by cases h⟩
  · exact ⟨false, by simp [h1], fun h => by cases h⟩

/-! ### find, elements, onto -/
end Go.E
/- Plain Lean: the roads of a signal: the document's search and the program's are one. No condition. -/
namespace Go.E
open Go

def addN (nd : List Need) (e pos : Int) : List Need := if pos = 0 then nd else nd ++ [⟨e, pos⟩]

/-! ### the document's search -/
theorem In_eq (l : List Int) (hl : l.length < 1000000) (x : Int) : g_R6_In l x = some (decide (x ∈ l)) := by
  unfold g_R6_In
  obtain ⟨b, h1, h2⟩ := loop_ix (l := l) (step := g_R6_In_l1 l x) (Post := fun b => b = decide (x ∈ l)) (fun _ y => y ≠ x) (fun good => ⟨false, by simp [g_R6_In_l1], by
      symm; rw [decide_eq_false_iff_not]; intro hm
      obtain ⟨i, hi⟩ := List.getElem?_of_mem hm
      exact good i x hi rfl⟩) (fun i a ha _ => by
      have := ilt ha
      by_cases e : a = x
      · exact .inl ⟨true, by simp only [g_R6_In_l1, dlt ha, cond_true, idx_nat, ha, Option.bind_some, e, beq_self_eq_true], by symm; rw [decide_eq_true_iff]; subst e; exact List.mem_of_getElem? ha⟩
      · have : (a == x) = false := beq_eq_false_iff_ne.2 e
        exact .inr ⟨by simp only [g_R6_In_l1, dlt ha, cond_true, idx_nat, ha, Option.bind_some, this, cond_false, wi64_succ (show i < 1000000000 by omega)], e⟩)
  rw [h1, h2]

theorem addN_len (nd : List Need) (e pos : Int) : (addN nd e pos).length ≤ nd.length + 1 := by
  unfold addN; split <;> simp

theorem At_eq (p : Plan) (s : Int) : g_R6_At p s = some (match idx p.signals s with | none => (⟨0, 0⟩, false) | some a => (a.at_, true)) := by
  unfold g_R6_At
  by_cases h1 : s < 0
  · simp [h1, idx_none (.inl h1)]
  · by_cases h2 : (p.signals.length : Int) ≤ s
    · simp [h1, h2, idx_none (.inr h2)]
    · obtain ⟨a, ha⟩ := idx_of (l := p.signals) (n := s) (by omega) (by omega)
      simp [h1, h2, ha]

end Go.E
/- Plain Lean: the program's search for roads gives what the document's does. No condition. -/
namespace Go.E
open Go

section
variable {p : Plan} {n : Net}

theorem net_At_eq (hn : NetOf p n) (s : Int) : g_net_Net_At n s = some (match idx p.signals s with | none => (⟨0, 0⟩, false) | some a => (a.at_, true)) := by
  have := At_eq p s
  unfold g_R6_At at this
  unfold g_net_Net_At
  rw [hn.plan]; exact this

/-! ### the program's search: what comes of a state -/
theorem outs_gate {e i : Int} (h : kindP p e = 4) : outsP p e i = [] := by
  unfold outsP
  rw [h]; simp

end
end Go.E
/- Plain Lean: whether something is a road: the program's answer and the document's are one. No condition. -/
namespace Go.E
open Go

theorem index_loop {α : Type} {l : List α} {f : α → Bool} (hl : l.length < 1000000) {step : Int → Option (Int ⊕ Int)}
    (h0 : step (l.length : Int) = some (.inr (-1))) (h : ∀ (i : Nat) a, l[i]? = some a → step (i : Int) = if f a = true then some (.inr (i : Int)) else some (.inl ((i + 1 : Nat) : Int))) :
    ∃ t, loopR step 0 = some t ∧ ((t = -1 ∧ l.find? f = none) ∨ ∃ a, 0 ≤ t ∧ l.find? f = some a ∧ idx l t = some a) := by
  have key : ∀ (r : List α) (i : Nat), l.drop i = r → i ≤ l.length → ∃ t, loopR step (i : Int) = some t ∧ ((t = -1 ∧ r.find? f = none) ∨ ∃ a, 0 ≤ t ∧ r.find? f = some a ∧ idx l t = some a) := by
    intro r
    induction r with
    | nil =>
      intro i hd hi
      have : i = l.length := by have := congrArg List.length hd; simp at this; omega
      subst this
      exact ⟨-1, loopR_inr h0, .inl ⟨rfl, rfl⟩⟩
    | cons a r ih =>
      intro i hd hi
      have hlt : i < l.length := by have := congrArg List.length hd; simp at this; omega
      have ha : l[i]? = some a := by
        have : (l.drop i)[0]? = some a := by rw [hd]; rfl
        simpa using this
      have hr : l.drop (i + 1) = r := by
        have : (l.drop i).drop 1 = r := by rw [hd]; rfl
        rwa [List.drop_drop] at this
      by_cases c : f a = true
      · exact ⟨i, loopR_inr (by rw [h i a ha, if_pos c]), .inr ⟨a, by omega, by simp [c], by rw [idx_nat, ha]⟩⟩
      · obtain ⟨t, h1, h2⟩ := ih (i + 1) hr (by omega)
        refine ⟨t, by rw [loopR_inl (by rw [h i a ha, if_neg c]), h1], ?_⟩
        simpa [List.find?_cons, c] using h2
  exact key l 0 rfl (Nat.zero_le _)

def wayF (l : List Way) (o : Int) : Option Way := l.find? fun w => w.out == o

/-- The needs of steps that follow from a port on, if they may follow. -/
def stepsF (p : Plan) (a : Int) : Option Port → List Step → List Need → List Step → Option (List Need)
  | _, _, nd, [] => some nd
  | none, _, _, _ :: _ => none
  | some x, pv, nd, s :: r => if s.elem ≠ x.elem ∨ s.in_ ≠ x.fin ∨ s.elem = a ∨ s.elem ∈ pv.map (·.elem) then none else if kindP p s.elem = 4 then (if r = [] ∧ s.out = -1 then some nd else none) else match wayF (outsP p s.elem s.in_) s.out with
    | none => none
    | some w => if r ≠ [] ∧ 0 ≤ readsP p ⟨s.elem, s.out⟩ then none else stepsF p a (nextP p ⟨s.elem, s.out⟩) (pv ++ [s]) (addN nd s.elem w.pos) r

def tailF (p : Plan) (fin to : Int) (l : Step) : Bool :=
  if kindP p l.elem = 4 then decide (fin = 2 ∧ to = -1) else if 0 ≤ readsP p ⟨l.elem, l.out⟩ then decide (fin = 1 ∧ to = readsP p ⟨l.elem, l.out⟩) else (nextP p ⟨l.elem, l.out⟩).isNone && decide (fin = 3 ∧ to = -1)

/-- Is it a road (but for its flank)? -/
def isF (p : Plan) (r : Road) : Bool := match idx p.signals r.frm with
  | none => false
  | some sg => if r.steps.length < 1 ∨ 12 < r.steps.length then false else match stepsF p sg.at_.elem (nextP p sg.at_) [] [] r.steps with
    | none => false
    | some nd => match r.steps.getLast? with
      | none => false
      | some l => tailF p r.fin r.to l && decide (r.needs = nd)

theorem stepsF_len {p : Plan} {a : Int} : ∀ {r : List Step} {x : Option Port} {pv : List Step} {nd nd' : List Need}, stepsF p a x pv nd r = some nd' → nd'.length ≤ nd.length + r.length
  | [], x, pv, nd, nd', h => by
    have : nd = nd' := by cases x <;> simpa [stepsF] using h
    subst this; simp
  | s :: r, none, pv, nd, nd', h => by simp [stepsF] at h
  | s :: r, some x, pv, nd, nd', h => by
    unfold stepsF at h
    split at h
    · cases h
    · split at h
      · split at h
        · cases h; simp
        · cases h
      · split at h
        · cases h
        · split at h
          · cases h
          · have h1 := stepsF_len h
            rename_i w _ _
            have h2 := addN_len nd s.elem w.pos
            simp only [List.length_cons]; omega

section
variable {p : Plan} {n : Net}

theorem pre_loop (r : Road) (e : Step) (i : Nat) (hl : r.steps.length < 1000) : ∃ t, loopR (g_road_Is_l2 e (r.steps.take i)) 0 = some t ∧ decide (0 ≤ t) = decide (e.elem ∈ (r.steps.take i).map (·.elem)) := by
  obtain ⟨t, h1, h2⟩ := index_loop (l := r.steps.take i) (f := fun s => s.elem == e.elem) (step := g_road_Is_l2 e (r.steps.take i)) (by rw [List.length_take]; omega)
    (by simp [g_road_Is_l2]) (fun j s hs => by
      have := ilt hs
      rw [List.length_take] at this
      simp only [g_road_Is_l2, g_road_Is_1, dlt hs, cond_true, idx_nat, hs, Option.bind_some, wi64_succ (show j < 1000000000 by omega)]
      by_cases c : s.elem = e.elem <;> simp [c, cbeq])
  refine ⟨t, h1, ?_⟩
  rcases h2 with ⟨rfl, h⟩ | ⟨s, h3, h4, _⟩
  · rw [show decide ((0 : Int) ≤ -1) = false by decide]
    symm; rw [decide_eq_false_iff_not]; intro hm
    obtain ⟨s, hs, he⟩ := List.mem_map.1 hm
    have := List.find?_eq_none.1 h s hs
    simp [he] at this
  · rw [decide_eq_true h3]
    symm; rw [decide_eq_true_iff]
    have := List.find?_some h4
    exact List.mem_map.2 ⟨s, List.mem_of_find?_eq_some h4, by simpa using this⟩

theorem way_loop (s : Step) (l : List Way) (hl : l.length < 1000) : ∃ t, loopR (g_road_Is_l3 s l) 0 = some t ∧ ((t = -1 ∧ wayF l s.out = none) ∨ ∃ w, 0 ≤ t ∧ wayF l s.out = some w ∧ idx l t = some w) := by
  obtain ⟨t, h1, h2⟩ := index_loop (l := l) (f := fun w => w.out == s.out) (step := g_road_Is_l3 s l) (by omega)
    (by simp [g_road_Is_l3]) (fun j w hs => by
      have := ilt hs
      simp only [g_road_Is_l3, g_road_Is_2, dlt hs, cond_true, idx_nat, hs, Option.bind_some, wi64_succ (show j < 1000000000 by omega)]
      by_cases c : w.out = s.out <;> simp [c, cbeq])
  exact ⟨t, h1, h2⟩

theorem take_slI {α : Type} (l : List α) (i : Nat) (h : i ≤ l.length) : slI l 0 (i : Int) = some (l.take i) := by
  unfold slI
  rw [if_pos ⟨by omega, by omega, by omega⟩]; simp

/-- What the program's loop over the steps makes of them. -/
def sumF (o : Option (List Need)) : List Need ⊕ Bool := match o with | none => .inr false | some nd => .inl nd

theorem Is_loop (hn : NetOf p n) (r : Road) (a : Port) (b : Bool) (hl : r.steps.length ≤ 12) : ∀ (l : List Step) (i : Nat) (x : Option Port) (nd : List Need), r.steps.drop i = l → i ≤ r.steps.length → nd.length ≤ i →
    loopR (g_road_Is_l1 n r (a, b)) (x.isSome, (i : Int), (x.getD ⟨0, 0⟩).elem, (x.getD ⟨0, 0⟩).fin, nd) = some (sumF (stepsF p a.elem x (r.steps.take i) nd l))
  | [], i, x, nd, hd, hi, hnd => by
    have : i = r.steps.length := by have := congrArg List.length hd; simp at this; omega
    subst this
    refine loopR_inr ?_
    have : stepsF p a.elem x (r.steps.take r.steps.length) nd [] = some nd := by cases x <;> rfl
    rw [this]
    simp only [g_road_Is_l1, dge, cond_false]; rfl
  | s :: l, i, x, nd, hd, hi, hnd => by
    have hlt : i < r.steps.length := by have := congrArg List.length hd; simp at this; omega
    have hs : r.steps[i]? = some s := by
      have : (r.steps.drop i)[0]? = some s := by rw [hd]; rfl
      simpa using this
    have hr : r.steps.drop (i + 1) = l := by
      have : (r.steps.drop i).drop 1 = l := by rw [hd]; rfl
      rwa [List.drop_drop] at this
    have htk : r.steps.take (i + 1) = r.steps.take i ++ [s] := by rw [List.take_add_one, hs]; rfl
    have hw : wi64 ((r.steps.length : Int) - 1) = (r.steps.length : Int) - 1 := by rw [wi64_id] <;> omega
    have hlast : ((i : Int) == (r.steps.length : Int) - 1) = decide (l = []) := by
      have hlen := congrArg List.length hr
      rw [List.length_drop] at hlen
      by_cases c : l = []
      · subst c; simp at hlen; rw [beq_iff_eq.2 (by omega)]; simp
      · have : l.length ≠ 0 := fun h => c (List.length_eq_zero_iff.1 h)
        rw [beq_eq_false_iff_ne.2 (by omega)]; simp [c]
    cases x with
    | none =>
      refine loopR_inr ?_
      simp only [g_road_Is_l1, dlt hs, cond_true, idx_nat, hs, Option.bind_some, Option.isSome_none, Bool.not_false]
      rfl
    | some y =>
      have e0 : ∀ (c : Prop) [Decidable c], c → (s.elem ≠ y.elem ∨ s.in_ ≠ y.fin ∨ s.elem = a.elem ∨ s.elem ∈ (r.steps.take i).map (·.elem)) → True := fun _ _ _ _ => trivial
      by_cases c1 : s.elem = y.elem
      · by_cases c2 : s.in_ = y.fin
        · by_cases c3 : s.elem = a.elem
          · refine loopR_inr ?_
            unfold stepsF
            rw [if_pos (.inr (.inr (.inl c3)))]
            simp only [g_road_Is_l1, dlt hs, cond_true, idx_nat, hs, Option.bind_some, Option.isSome_some, Option.getD_some, Bool.not_true, cond_false, cbne, cbeq, if_pos c1, if_pos c2, if_pos c3]
            rfl
          · obtain ⟨t, t1, t2⟩ := pre_loop r s i (by omega)
            by_cases c4 : s.elem ∈ (r.steps.take i).map (·.elem)
            · refine loopR_inr ?_
              unfold stepsF
              rw [if_pos (.inr (.inr (.inr c4)))]
              rw [decide_eq_true c4] at t2
              simp only [g_road_Is_l1, dlt hs, cond_true, idx_nat, hs, Option.bind_some, Option.isSome_some, Option.getD_some, Bool.not_true, cond_false, cbne, cbeq, if_pos c1, if_pos c2, if_neg c3, take_slI r.steps i hi, t1, t2]
              rfl
            · rw [decide_eq_false c4] at t2
              unfold stepsF
              rw [if_neg (by rintro (h | h | h | h) <;> first | exact h c1 | exact h c2 | exact c3 h | exact c4 h)]
              by_cases k4 : kindP p s.elem = 4
              · refine loopR_inr ?_
                rw [if_pos k4]
                simp only [g_road_Is_l1, dlt hs, cond_true, idx_nat, hs, Option.bind_some, Option.isSome_some, Option.getD_some, Bool.not_true, cond_false, cbne, cbeq, if_pos c1, if_pos c2, if_neg c3, take_slI r.steps i hi, t1, t2, net_Kind hn, if_pos k4, hw, hlast]
                by_cases d1 : l = []
                · by_cases d2 : s.out = -1
                  · simp [d1, d2, sumF]
                  · simp [d1, d2, sumF, cbne]
                · simp [d1, sumF]
              · rw [if_neg k4]
                obtain ⟨u, u1, u2⟩ := way_loop s (outsP p s.elem s.in_) (by have := outsP_len p s.elem s.in_; omega)
                rcases u2 with ⟨rfl, u2⟩ | ⟨w, u2, u3, u4⟩
                · refine loopR_inr ?_
                  rw [u2]
                  simp only [g_road_Is_l1, dlt hs, cond_true, idx_nat, hs, Option.bind_some, Option.isSome_some, Option.getD_some, Bool.not_true, cond_false, cbne, cbeq, if_pos c1, if_pos c2, if_neg c3, take_slI r.steps i hi, t1, t2, net_Kind hn, if_neg k4, net_Outs hn, u1, show decide ((-1 : Int) < 0) = true by decide]
                  rfl
                · rw [u3]
                  dsimp only
                  have du : decide (u < 0) = false := by simp; omega
                  have hnl : (addN nd s.elem w.pos).length ≤ i + 1 := by have := addN_len nd s.elem w.pos; omega
                  have hneed : ((bif w.pos != 0 then (appI nd [(⟨s.elem, w.pos⟩ : Need)]).bind fun y => some y else some nd : Option (List Need))) = some (addN nd s.elem w.pos) := by
                    rw [cbne]; unfold addN
                    by_cases e : w.pos = 0
                    · simp [e]
                    · simp only [if_neg e]
                      rw [appI_ok (by simp; omega)]; rfl
                  simp only [cbne] at hneed
                  by_cases d1 : l = []
                  · simp only [d1, ne_eq, not_true_eq_false, false_and, if_false]
                    have ih := Is_loop hn r a b hl l (i + 1) (nextP p ⟨s.elem, s.out⟩) (addN nd s.elem w.pos) hr (by omega) hnl
                    rw [htk, d1] at ih
                    rw [← ih]
                    refine loopR_inl ?_
                    simp only [g_road_Is_l1, dlt hs, cond_true, idx_nat, hs, Option.bind_some, Option.isSome_some, Option.getD_some, Bool.not_true, cond_false, cbne, cbeq, if_pos c1, if_pos c2, if_neg c3, take_slI r.steps i hi, t1, t2, net_Kind hn, if_neg k4, net_Outs hn, u1, du, u4, hneed, hw, hlast, d1, decide_true, net_Next hn, wi64_succ (show i < 1000000000 by omega)]
                  · by_cases d2 : 0 ≤ readsP p ⟨s.elem, s.out⟩
                    · rw [if_pos ⟨d1, d2⟩]
                      refine loopR_inr ?_
                      simp only [g_road_Is_l1, dlt hs, cond_true, idx_nat, hs, Option.bind_some, Option.isSome_some, Option.getD_some, Bool.not_true, cond_false, cbne, cbeq, if_pos c1, if_pos c2, if_neg c3, take_slI r.steps i hi, t1, t2, net_Kind hn, if_neg k4, net_Outs hn, u1, du, u4, hneed, hw, hlast, d1, decide_false, Bool.not_false, net_Reads hn, d2, decide_true]
                      rfl
                    · rw [if_neg (fun h => d2 h.2)]
                      have ih := Is_loop hn r a b hl l (i + 1) (nextP p ⟨s.elem, s.out⟩) (addN nd s.elem w.pos) hr (by omega) hnl
                      rw [htk] at ih
                      rw [← ih]
                      refine loopR_inl ?_
                      simp only [g_road_Is_l1, dlt hs, cond_true, idx_nat, hs, Option.bind_some, Option.isSome_some, Option.getD_some, Bool.not_true, cond_false, cbne, cbeq, if_pos c1, if_pos c2, if_neg c3, take_slI r.steps i hi, t1, t2, net_Kind hn, if_neg k4, net_Outs hn, u1, du, u4, hneed, hw, hlast, d1, decide_false, Bool.not_false, net_Reads hn, d2, net_Next hn, wi64_succ (show i < 1000000000 by omega)]
        · refine loopR_inr ?_
          unfold stepsF
          rw [if_pos (.inr (.inl c2))]
          simp only [g_road_Is_l1, dlt hs, cond_true, idx_nat, hs, Option.bind_some, Option.isSome_some, Option.getD_some, Bool.not_true, cond_false, cbne, cbeq, if_pos c1, if_neg c2]
          rfl
      · refine loopR_inr ?_
        unfold stepsF
        rw [if_pos (.inl c1)]
        simp only [g_road_Is_l1, dlt hs, cond_true, idx_nat, hs, Option.bind_some, Option.isSome_some, Option.getD_some, Bool.not_true, cond_false, cbne, cbeq, if_neg c1]
        rfl

theorem ends_eq (hn : NetOf p n) (r : Road) (l : Step) : g_road_ends n r l = some (tailF p r.fin r.to l) := by
  unfold g_road_ends tailF
  simp only [net_Kind hn, net_Reads hn, net_Next hn, Option.bind_some, cbeq]
  by_cases h1 : kindP p l.elem = 4
  · by_cases h2 : r.fin = 2 <;> simp [h1, h2, Bool.beq_eq_decide_eq]
    all_goals try rfl
  · by_cases h2 : 0 ≤ readsP p ⟨l.elem, l.out⟩
    · by_cases h3 : r.fin = 1 <;> simp [h1, h2, h3]
      all_goals try rfl
    · cases nextP p ⟨l.elem, l.out⟩ with
      | none =>
        by_cases h3 : r.fin = 3 <;> simp [h1, h2, h3]
        all_goals try rfl
      | some y => simp [h1, h2]

theorem last_idx {α : Type} (l : List α) (h : 1 ≤ l.length) (h2 : l.length < 1000000) : idx l (wi64 ((l.length : Int) - 1)) = l.getLast? := by
  have : wi64 ((l.length : Int) - 1) = ((l.length - 1 : Nat) : Int) := by rw [wi64_id] <;> omega
  rw [this, idx_nat, List.getLast?_eq_getElem?]

theorem road_Is_eq (hn : NetOf p n) (r : Road) (h2 : r.needs.length ≤ 1000) : g_road_Is n r = some (isF p r) := by
  unfold g_road_Is isF
  rw [net_At_eq hn]
  cases hi : idx p.signals r.frm with
  | none => rfl
  | some sg =>
    simp only [Option.bind_some, Bool.not_true, cond_false]
    by_cases c1 : r.steps.length < 1
    · have d : decide ((r.steps.length : Int) < 1) = true := by simp; omega
      rw [if_pos (.inl c1)]
      simp only [d, cond_true, Option.bind_some]
    · have d : decide ((r.steps.length : Int) < 1) = false := by simp; omega
      by_cases c2 : 12 < r.steps.length
      · have d2 : decide (12 < (r.steps.length : Int)) = true := by simp; omega
        rw [if_pos (.inr c2)]
        simp only [d, d2, cond_true, cond_false, Option.bind_some]
      · have d2 : decide (12 < (r.steps.length : Int)) = false := by simp; omega
        rw [if_neg (by omega)]
        simp only [d, d2, cond_false, Option.bind_some, net_Next hn]
        have hloop := Is_loop hn r sg.at_ true (by omega) r.steps 0 (nextP p sg.at_) [] rfl (by omega) (by simp)
        rw [List.take_zero] at hloop
        rw [show ((0 : Nat) : Int) = 0 from rfl] at hloop
        rw [hloop]
        cases hs : stepsF p sg.at_.elem (nextP p sg.at_) [] [] r.steps with
        | none => rfl
        | some nd =>
          have hlen := stepsF_len hs
          rw [last_idx r.steps (by omega) (by omega)]
          obtain ⟨l, hl⟩ : ∃ l, r.steps.getLast? = some l := by
            rw [List.getLast?_eq_getElem?]; exact ⟨_, List.getElem?_eq_getElem (by omega)⟩
          simp only [sumF, seqR, Option.bind_some, hl, ends_eq hn, eqNeeds r.needs nd (by omega)]
          cases tailF p r.fin r.to l <;> simp

/-! ### the document's test -/
def J0 (p : Plan) : Port → List Int → List Step → Bool
  | _, _, [] => true
  | f, met, s :: r => match nextP p f with
    | none => false
    | some x => if x.elem ≠ s.elem ∨ x.fin ≠ s.in_ ∨ s.elem ∈ met then false else (decide (r = []) || decide (readsP p ⟨s.elem, s.out⟩ < 0)) && J0 p ⟨s.elem, s.out⟩ (met ++ [s.elem]) r

def needsF (p : Plan) : List Need → List Step → Option (List Need)
  | nd, [] => some nd
  | nd, s :: r => match wayF (outsP p s.elem s.in_) s.out with
    | some w => needsF p (addN nd s.elem w.pos) r
    | none => if kindP p s.elem = 4 ∧ s.in_ = 0 ∧ s.out = -1 ∧ r = [] then some nd else none

theorem joined_eq (hf : FewP p) (l : List Step) (hl : l.length ≤ 100) : ∀ (r : List Step) (i : Nat) (f : Port) (met : List Int), l.drop i = r → i ≤ l.length → met.length ≤ i + 1 →
    loopR (g_R12_joined_l1 p l) ((i : Int), met, f.elem, f.fin) = some ((decide (r = []) || decide (i = 0) || decide (readsP p f < 0)) && J0 p f met r)
  | [], i, f, met, hd, hi, hm => by
    have : i = l.length := by have := congrArg List.length hd; simp at this; omega
    subst this
    exact loopR_inr (by simp [g_R12_joined_l1, J0])
  | s :: r, i, f, met, hd, hi, hm => by
    have hlt : i < l.length := by have := congrArg List.length hd; simp at this; omega
    have hs : l[i]? = some s := by
      have : (l.drop i)[0]? = some s := by rw [hd]; rfl
      simpa using this
    have hr : l.drop (i + 1) = r := by
      have : (l.drop i).drop 1 = r := by rw [hd]; rfl
      rwa [List.drop_drop] at this
    have hj : p.joins.length < 1000000 := by have := hf.joins; omega
    have hsg : p.signals.length < 1000000 := by have := hf.signals; omega
    unfold J0
    cases hx : nextP p f with
    | none =>
      refine loopR_inr ?_
      simp only [g_R12_joined_l1, dlt hs, cond_true, g_R6_Next_eq p hj, hx, Option.bind_some, Option.isSome_none, Bool.not_false, Bool.and_false]
    | some x =>
      by_cases c1 : x.elem = s.elem
      · by_cases c2 : x.fin = s.in_
        · by_cases c3 : s.elem ∈ met
          · refine loopR_inr ?_
            simp only [if_pos (show x.elem ≠ s.elem ∨ x.fin ≠ s.in_ ∨ s.elem ∈ met from .inr (.inr c3)), Bool.and_false]
            simp only [g_R12_joined_l1, dlt hs, cond_true, g_R6_Next_eq p hj, hx, Option.bind_some, Option.isSome_some, Option.getD_some, Bool.not_true, cond_false, idx_nat, hs, cbne, if_pos c1, if_pos c2, In_eq met (by omega), decide_eq_true c3]
          · simp only [if_neg (show ¬ (x.elem ≠ s.elem ∨ x.fin ≠ s.in_ ∨ s.elem ∈ met) by rintro (h | h | h) <;> first | exact h c1 | exact h c2 | exact c3 h)]
            by_cases c4 : 0 < i ∧ 0 ≤ readsP p f
            · refine loopR_inr ?_
              have d : decide ((0 : Int) < (i : Int)) = true := by simp; omega
              have e : decide (readsP p f < 0) = false := by simp; omega
              have e2 : decide (i = 0) = false := by simp; omega
              simp only [g_R12_joined_l1, dlt hs, cond_true, g_R6_Next_eq p hj, hx, Option.bind_some, Option.isSome_some, Option.getD_some, Bool.not_true, cond_false, idx_nat, hs, cbne, if_pos c1, if_pos c2, In_eq met (by omega), decide_eq_false c3, d, g_R6_Reads_eq p hsg, decide_eq_true c4.2, e, e2]
              simp
            · have hh : ((bif decide ((0 : Int) < (i : Int)) then (some (readsP p ⟨f.elem, f.fin⟩)).bind fun y => some (decide (0 ≤ y)) else some false : Option Bool)) = some false := by
                by_cases d : 0 < i
                · have d1 : decide ((0 : Int) < (i : Int)) = true := by simp; omega
                  have d2 : decide (0 ≤ readsP p f) = false := by simp; omega
                  simp only [d1, cond_true, Option.bind_some, d2]
                · have d1 : decide ((0 : Int) < (i : Int)) = false := by simp; omega
                  simp only [d1, cond_false]
              have ih := joined_eq hf l hl r (i + 1) ⟨s.elem, s.out⟩ (met ++ [s.elem]) hr (by omega) (by simp; omega)
              rw [loopR_inl (s' := (((i + 1 : Nat) : Int), met ++ [s.elem], s.elem, s.out)) (by
                simp only [g_R12_joined_l1, dlt hs, cond_true, g_R6_Next_eq p hj, hx, Option.bind_some, Option.isSome_some, Option.getD_some, Bool.not_true, cond_false, idx_nat, hs, cbne, if_pos c1, if_pos c2, In_eq met (by omega), decide_eq_false c3, g_R6_Reads_eq p hsg]
                simp only [Option.bind_some] at hh
                rw [hh]
                simp only [Option.bind_some, cond_false]
                rw [appI_ok (by simp; omega)]
                simp only [Option.bind_some, wi64_succ (show i < 1000000000 by omega)]), ih]
              have e3 : (decide (s :: r = []) || decide (i = 0) || decide (readsP p f < 0)) = true := by
                by_cases d : i = 0
                · simp [d]
                · have : decide (readsP p f < 0) = true := by simp; omega
                  simp [this]
              rw [e3]
              simp
        · refine loopR_inr ?_
          simp only [if_pos (show x.elem ≠ s.elem ∨ x.fin ≠ s.in_ ∨ s.elem ∈ met from .inr (.inl c2)), Bool.and_false]
          simp only [g_R12_joined_l1, dlt hs, cond_true, g_R6_Next_eq p hj, hx, Option.bind_some, Option.isSome_some, Option.getD_some, Bool.not_true, cond_false, idx_nat, hs, cbne, if_pos c1, if_neg c2]
      · refine loopR_inr ?_
        simp only [if_pos (show x.elem ≠ s.elem ∨ x.fin ≠ s.in_ ∨ s.elem ∈ met from .inl c1), Bool.and_false]
        simp only [g_R12_joined_l1, dlt hs, cond_true, g_R6_Next_eq p hj, hx, Option.bind_some, Option.isSome_some, Option.getD_some, Bool.not_true, cond_false, idx_nat, hs, cbne, if_neg c1]

end
end Go.E
/- Plain Lean: whether something is a road, as the document says; the roads of a signal are roads, and none is told twice. No condition. -/
namespace Go.E
open Go

theorem outs_dist (p : Plan) (e i : Int) : (outsP p e i).Pairwise (fun a b => a.out ≠ b.out) := by
  unfold outsP
  repeat' split
  all_goals simp

theorem outs_fact {p : Plan} {e i : Int} {w : Way} (h : w ∈ outsP p e i) : 0 ≤ w.out ∧ w.out < endsF (kindP p e) ∧ 0 ≤ i ∧ i < endsF (kindP p e) ∧ kindP p e ≠ 4 ∧ (w.pos ≠ 0 → kindP p e = 2 ∧ (w.pos = 1 ∨ w.pos = 2)) := by
  unfold outsP at h
  cases hh : hasP p ⟨e, i⟩ with
  | false => rw [hh] at h; simp at h
  | true =>
    obtain ⟨h1, h2, h3⟩ := hasP_fin hh
    simp only at h1 h2 h3
    rw [hh] at h
    simp only [if_true] at h
    by_cases k1 : kindP p e = 1
    · rw [k1] at h h3 ⊢
      simp [endsF] at h h3 ⊢
      subst h
      simp; omega
    · by_cases k3 : kindP p e = 3
      · rw [k3] at h h3 ⊢
        simp [endsF] at h h3 ⊢
        subst h
        simp
        split
        · omega
        · split
          · omega
          · split <;> omega
      · by_cases k2 : kindP p e = 2
        · rw [k2] at h h3 ⊢
          simp [endsF] at h h3 ⊢
          by_cases i0 : i = 0
          · subst i0
            simp at h
            rcases h with rfl | rfl <;> simp
          · rw [if_neg i0] at h
            simp at h
            subst h
            simp; omega
        · rw [if_neg k1, if_neg k3, if_neg k2] at h; simp at h

theorem wayF_some {l : List Way} {o : Int} {w : Way} (h : wayF l o = some w) : w ∈ l ∧ w.out = o := by
  refine ⟨List.mem_of_find?_eq_some h, ?_⟩
  have := List.find?_some h
  simpa using this

section
variable {p : Plan} {n : Net}

/-- What comes behind the ways of one step. -/
def finN (p : Plan) (l : List Step) (i : Nat) (s : Step) (ok : Bool) (nd : List Need) : (Int × List Need) ⊕ (List Need × Bool) :=
  if ok = true ∨ (kindP p s.elem = 4 ∧ s.in_ = 0 ∧ s.out = -1 ∧ i + 1 = l.length) then .inl (((i + 1 : Nat) : Int), nd) else .inr ([], false)

theorem needs_ways (l : List Step) (hl : l.length ≤ 100) (i : Nat) (s : Step) (hs : l[i]? = some s) (nd0 : List Need) (ws : List Way) (hws : ws.length ≤ 100) : ∀ (r : List Way) (k : Nat) (ok : Bool) (nd : List Need), ws.drop k = r → k ≤ ws.length → r.Pairwise (fun a b => a.out ≠ b.out) → (ok = true → wayF r s.out = none) → nd.length + r.length ≤ 1000 →
    loopR (g_R12_needs_l2 p l ((i : Int), nd0) ws) (ok, (k : Int), nd) = some (match wayF r s.out with | some w => finN p l i s true (addN nd s.elem w.pos) | none => finN p l i s ok nd)
  | [], k, ok, nd, hd, hk, hp, hok, hnd => by
    have : k = ws.length := by have := congrArg List.length hd; simp at this; omega
    subst this
    have hi := ilt hs
    refine loopR_inr ?_
    have hw : wi64 ((l.length : Int) - 1) = (l.length : Int) - 1 := by rw [wi64_id] <;> omega
    simp only [g_R12_needs_l2, dge, cond_false, idx_nat, hs, Option.bind_some, g_R6_Kind_eq, cbne, hw, wi64_succ (show i < 1000000000 by omega), wayF, List.find?_nil, finN]
    cases ok with
    | true => simp
    | false =>
      by_cases c1 : kindP p s.elem = 4
      · by_cases c2 : s.in_ = 0
        · by_cases c3 : s.out = -1
          · by_cases c4 : i + 1 = l.length
            · have : (i : Int) = (l.length : Int) - 1 := by omega
              simp [c1, c2, c3, c4, this]
            · have : (i : Int) ≠ (l.length : Int) - 1 := by omega
              have e : ((i : Int) != (l.length : Int) - 1) = true := bne_iff_ne.2 this
              simp [c1, c2, c3, c4, e]
          · simp [c1, c2, c3]
        · simp [c1, c2]
      · simp [c1]
  | w :: r, k, ok, nd, hd, hk, hp, hok, hnd => by
    have hlt : k < ws.length := by have := congrArg List.length hd; simp at this; omega
    have ha : ws[k]? = some w := by
      have : (ws.drop k)[0]? = some w := by rw [hd]; rfl
      simpa using this
    have hr : ws.drop (k + 1) = r := by
      have : (ws.drop k).drop 1 = r := by rw [hd]; rfl
      rwa [List.drop_drop] at this
    rw [List.pairwise_cons] at hp
    by_cases c : w.out = s.out
    · have hnone : wayF r s.out = none := by
        unfold wayF
        rw [List.find?_eq_none]
        intro v hv
        have := hp.1 v hv
        simp only [beq_iff_eq]; omega
      have hsome : wayF (w :: r) s.out = some w := by simp [wayF, c]
      have ih := needs_ways l hl i s hs nd0 ws hws r (k + 1) true (addN nd s.elem w.pos) hr (by omega) hp.2 (fun _ => hnone) (by
        have := addN_len nd s.elem w.pos
        simp only [List.length_cons] at hnd; omega)
      rw [hnone] at ih
      rw [hsome]
      simp only
      rw [← ih]
      refine loopR_inl ?_
      simp only [g_R12_needs_l2, dlt ha, cond_true, idx_nat, ha, hs, Option.bind_some, cbne, if_pos c, wi64_succ (show k < 1000000000 by omega)]
      unfold addN
      by_cases e : w.pos = 0
      · simp [e]
      · simp only [if_neg e]
        rw [appI_ok (by simp only [List.length_cons, List.length_nil] at hnd ⊢; omega)]
        rfl
    · have e : (w.out == s.out) = false := beq_eq_false_iff_ne.2 c
      have hsame : wayF (w :: r) s.out = wayF r s.out := by simp [wayF, e]
      rw [hsame]
      rw [← needs_ways l hl i s hs nd0 ws hws r (k + 1) ok nd hr (by omega) hp.2 (fun h => by rw [← hsame]; exact hok h) (by simp only [List.length_cons] at hnd; omega)]
      refine loopR_inl ?_
      simp only [g_R12_needs_l2, dlt ha, cond_true, idx_nat, ha, hs, Option.bind_some, cbne, if_neg c, wi64_succ (show k < 1000000000 by omega)]

theorem needs_eq (l : List Step) (hl : l.length ≤ 100) : ∀ (r : List Step) (i : Nat) (nd : List Need), l.drop i = r → i ≤ l.length → nd.length ≤ i →
    loopR (g_R12_needs_l1 p l) ((i : Int), nd) = some (match needsF p nd r with | some m => (m, true) | none => ([], false))
  | [], i, nd, hd, hi, hn => by
    have : i = l.length := by have := congrArg List.length hd; simp at this; omega
    subst this
    exact loopR_inr (by simp [g_R12_needs_l1, needsF])
  | s :: r, i, nd, hd, hi, hn => by
    have hlt : i < l.length := by have := congrArg List.length hd; simp at this; omega
    have hs : l[i]? = some s := by
      have : (l.drop i)[0]? = some s := by rw [hd]; rfl
      simpa using this
    have hr : l.drop (i + 1) = r := by
      have : (l.drop i).drop 1 = r := by rw [hd]; rfl
      rwa [List.drop_drop] at this
    have hrl : (i + 1 = l.length) = (r = []) := by
      have := congrArg List.length hr
      rw [List.length_drop] at this
      rw [← List.length_eq_zero_iff]
      exact propext ⟨fun h => by omega, fun h => by omega⟩
    have hol := outsP_len p s.elem s.in_
    have hw := needs_ways (p := p) l hl i s hs nd (outsP p s.elem s.in_) (by omega) (outsP p s.elem s.in_) 0 false nd rfl (by omega) (outs_dist p s.elem s.in_) (by simp) (by omega)
    have hstep : g_R12_needs_l1 p l ((i : Int), nd) = loopR (g_R12_needs_l2 p l ((i : Int), nd) (outsP p s.elem s.in_)) (false, 0, nd) := by
      simp only [g_R12_needs_l1, dlt hs, cond_true, idx_nat, hs, Option.bind_some, R6_Outs_eq]
    rw [show ((0 : Nat) : Int) = 0 from rfl] at hw
    rw [hw] at hstep
    unfold needsF
    cases hf : wayF (outsP p s.elem s.in_) s.out with
    | some w =>
      rw [hf] at hstep
      simp only [finN, true_or, if_true] at hstep
      rw [loopR_inl hstep, needs_eq l hl r (i + 1) _ hr (by omega) (by have := addN_len nd s.elem w.pos; omega)]
    | none =>
      rw [hf] at hstep
      simp only [finN, hrl] at hstep
      by_cases c : kindP p s.elem = 4 ∧ s.in_ = 0 ∧ s.out = -1 ∧ r = []
      · rw [if_pos (.inr c)] at hstep
        rw [loopR_inl hstep, needs_eq l hl r (i + 1) _ hr (by omega) (by omega), c.2.2.2]
        simp [needsF, c.1, c.2.1, c.2.2.1]
      · rw [if_neg (fun h => h.elim (fun h => Bool.noConfusion h) c)] at hstep
        rw [loopR_inr hstep]
        simp only [if_neg c]

theorem stepsF_eq (hv : Valid p) (a : Int) : ∀ (r : List Step) (f : Port) (pv : List Step) (nd : List Need), stepsF p a (nextP p f) pv nd r = if J0 p f (a :: pv.map (·.elem)) r = true then needsF p nd r else none
  | [], f, pv, nd => by cases nextP p f <;> simp [stepsF, J0, needsF]
  | s :: r, f, pv, nd => by
    unfold J0
    cases hx : nextP p f with
    | none => simp [stepsF]
    | some x =>
      have hport := hv.join.next hx
      by_cases c : s.elem ≠ x.elem ∨ s.in_ ≠ x.fin ∨ s.elem = a ∨ s.elem ∈ pv.map (·.elem)
      · have c' : x.elem ≠ s.elem ∨ x.fin ≠ s.in_ ∨ s.elem ∈ a :: pv.map (·.elem) := by
          rcases c with h | h | h | h
          · exact .inl (Ne.symm h)
          · exact .inr (.inl (Ne.symm h))
          · exact .inr (.inr (by rw [h]; simp))
          · exact .inr (.inr (List.mem_cons_of_mem _ h))
        simp only [stepsF, if_pos c, if_pos c', Bool.false_eq_true, if_false]
      · have c' : ¬ (x.elem ≠ s.elem ∨ x.fin ≠ s.in_ ∨ s.elem ∈ a :: pv.map (·.elem)) := by
          rintro (h | h | h)
          · exact c (.inl (Ne.symm h))
          · exact c (.inr (.inl (Ne.symm h)))
          · rcases List.mem_cons.1 h with h | h
            · exact c (.inr (.inr (.inl h)))
            · exact c (.inr (.inr (.inr h)))
        have e1 : s.elem = x.elem := Decidable.not_not.1 fun h => c (.inl h)
        have e2 : s.in_ = x.fin := Decidable.not_not.1 fun h => c (.inr (.inl h))
        unfold stepsF
        simp only [if_neg c, if_neg c']
        by_cases k4 : kindP p s.elem = 4
        · have i0 : s.in_ = 0 := by
            obtain ⟨h1, h2, h3⟩ := hasP_fin hport
            rw [← e1, k4] at h3
            simp [endsF] at h3
            omega
          have hw : wayF (outsP p s.elem s.in_) s.out = none := by rw [outs_gate k4]; rfl
          simp only [if_pos k4, needsF, hw]
          by_cases d : s.out = -1 ∧ r = []
          · have : J0 p ⟨s.elem, s.out⟩ (a :: pv.map (·.elem) ++ [s.elem]) r = true := by rw [d.2]; rfl
            rw [this]; simp [d.1, d.2, k4, i0]
          · rw [if_neg (show ¬ (r = [] ∧ s.out = -1) from fun h => d ⟨h.2, h.1⟩), if_neg (show ¬ (kindP p s.elem = 4 ∧ s.in_ = 0 ∧ s.out = -1 ∧ r = []) from fun h => d h.2.2)]; simp
        · simp only [if_neg k4, needsF]
          cases hw : wayF (outsP p s.elem s.in_) s.out with
          | none => simp [k4]
          | some w =>
            have ih := stepsF_eq hv a r ⟨s.elem, s.out⟩ (pv ++ [s]) (addN nd s.elem w.pos)
            rw [List.map_append] at ih
            simp only
            by_cases d : r = []
            · rw [if_neg (fun h => h.1 d), ih, d]; simp [J0]
            · by_cases d2 : 0 ≤ readsP p ⟨s.elem, s.out⟩
              · rw [if_pos ⟨d, d2⟩]
                have : decide (readsP p ⟨s.elem, s.out⟩ < 0) = false := by simp; omega
                simp [this, d]
              · rw [if_neg (fun h => d2 h.2), ih]
                have : decide (readsP p ⟨s.elem, s.out⟩ < 0) = true := by simp; omega
                simp [this]

/-- The last of steps that may follow. -/
theorem stepsF_last {a : Int} : ∀ {r : List Step} {x : Option Port} {pv : List Step} {nd nd' : List Need} {l : Step}, stepsF p a x pv nd r = some nd' → r.getLast? = some l → (kindP p l.elem = 4 ∧ l.out = -1) ∨ (kindP p l.elem ≠ 4 ∧ 0 ≤ l.out)
  | [], x, pv, nd, nd', l, h, hl => by simp at hl
  | s :: r, none, pv, nd, nd', l, h, hl => by simp [stepsF] at h
  | s :: r, some x, pv, nd, nd', l, h, hl => by
    unfold stepsF at h
    split at h
    · cases h
    · by_cases k4 : kindP p s.elem = 4
      · rw [if_pos k4] at h
        split at h
        · rename_i c
          rw [c.1] at hl
          simp at hl
          subst hl
          exact .inl ⟨k4, c.2⟩
        · cases h
      · rw [if_neg k4] at h
        cases hw : wayF (outsP p s.elem s.in_) s.out with
        | none => rw [hw] at h; cases h
        | some w =>
          rw [hw] at h
          simp only at h
          split at h
          · cases h
          · by_cases d : r = []
            · subst d
              simp at hl
              subst hl
              have h1 := wayF_some hw
              have h2 := outs_fact h1.1
              exact .inr ⟨k4, by omega⟩
            · obtain ⟨b, r', rfl⟩ := List.exists_cons_of_ne_nil d
              rw [List.getLast?_cons_cons] at hl
              exact stepsF_last h hl

theorem R12_Is_eq (hv : Valid p) (r : Road) (h2 : r.needs.length ≤ 1000) : g_R12_Is p r = some (isF p r) := by
  unfold g_R12_Is isF
  have hf := hv.few
  rw [At_eq]
  cases hi : idx p.signals r.frm with
  | none => rfl
  | some sg =>
    simp only [Option.bind_some, Bool.not_true, cond_false]
    by_cases c1 : r.steps.length < 1
    · have d : decide ((r.steps.length : Int) < 1) = true := by simp; omega
      rw [if_pos (.inl c1)]
      simp only [d, cond_true, Option.bind_some]
    · have d : decide ((r.steps.length : Int) < 1) = false := by simp; omega
      by_cases c2 : 12 < r.steps.length
      · have d2 : decide (12 < (r.steps.length : Int)) = true := by simp; omega
        rw [if_pos (.inr c2)]
        simp only [d, d2, cond_true, cond_false, Option.bind_some]
      · have d2 : decide (12 < (r.steps.length : Int)) = false := by simp; omega
        rw [if_neg (by omega)]
        have hj := joined_eq hf r.steps (by omega) r.steps 0 sg.at_ [sg.at_.elem] rfl (by omega) (by simp)
        have hnd := needs_eq (p := p) r.steps (by omega) r.steps 0 [] rfl (by omega) (by simp)
        rw [show ((0 : Nat) : Int) = 0 from rfl] at hj hnd
        have hs := stepsF_eq hv sg.at_.elem r.steps sg.at_ [] []
        simp only [List.map_nil] at hs
        simp only [d, d2, cond_false, Option.bind_some, g_R12_joined, hj, g_R12_needs, hnd, decide_true, Bool.or_true, Bool.true_or, Bool.true_and]
        cases hJ : J0 p sg.at_ [sg.at_.elem] r.steps with
        | false =>
          rw [hJ] at hs
          rw [hs]; simp
        | true =>
          rw [hJ] at hs
          simp only [if_true] at hs
          rw [hs]
          cases hn : needsF p [] r.steps with
          | none => simp
          | some nd =>
            rw [hn] at hs
            have hlen := stepsF_len hs
            rw [last_idx r.steps (by omega) (by omega)]
            obtain ⟨l, hl⟩ : ∃ l, r.steps.getLast? = some l := by
              rw [List.getLast?_eq_getElem?]; exact ⟨_, List.getElem?_eq_getElem (by omega)⟩
            simp only [Bool.not_true, cond_false, Option.bind_some, hl, eqNeeds2 nd r.needs (show nd.length < 1000000 by simp only [List.length_nil] at hlen; omega)]
            have hcomm : decide (nd = r.needs) = decide (r.needs = nd) := by simp [eq_comm]
            rw [hcomm]
            by_cases e : r.needs = nd
            · simp only [e, decide_true, Bool.not_true, cond_false, Bool.and_true]
              have hsg : p.signals.length < 1000000 := by have := hf.signals; omega
              have hjn : p.joins.length < 1000000 := by have := hf.joins; omega
              unfold tailF
              rcases stepsF_last hs hl with ⟨k1, k2⟩ | ⟨k1, k2⟩
              · have : decide (l.out < 0) = true := by simp; omega
                rw [if_pos k1]
                simp only [this, cond_true, cbeq]
                by_cases c : r.fin = 2 <;> simp [c]
                rfl
              · have : decide (l.out < 0) = false := by simp; omega
                rw [if_neg k1]
                simp only [this, cond_false, g_R6_Reads_eq p hsg, g_R6_Next_eq p hjn, Option.bind_some, cbeq]
                by_cases c : 0 ≤ readsP p ⟨l.elem, l.out⟩
                · by_cases c3 : r.fin = 1 <;> simp [c, c3]
                  rfl
                · cases nextP p ⟨l.elem, l.out⟩ with
                  | none =>
                    by_cases c3 : r.fin = 3 <;> simp [c, c3]
                    rfl
                  | some y => simp [c]
            · simp [e]

/-! ### the roads of a signal are roads -/
/-! ### none is told twice -/
end
end Go.E
/- Plain Lean: RoadOfs, RoadAlls, RoadIsOne, RoadTurned and RoadEach answer true, for every argument. No condition. -/
namespace Go.E
open Go

section
variable {p : Plan} {n : Net}

end

theorem RoadIsOne_true (p : Plan) (r : Road) : g_L7_RoadIsOne p r = some true := by
  unfold g_L7_RoadIsOne
  simp only [known7, Option.bind_some, Bool.not_true, cond_false]
  obtain ⟨b, h1, h2⟩ := fine_total p
  simp only [h1, Option.bind_some]
  cases b with
  | false => rfl
  | true =>
    have hv := h2 rfl
    obtain ⟨o, h3, h4⟩ := made_total p
    obtain ⟨n, rfl, hn⟩ := h4 h1
    obtain ⟨c, h5, h6⟩ := light_total r
    simp only [Bool.not_true, cond_false, h5, Option.bind_some]
    cases c with
    | false => rfl
    | true =>
      have hr := (h6 rfl).1.needs
      simp only [Bool.not_true, cond_false, h3, Option.bind_some, optM, road_Is_eq hn r hr, R12_Is_eq hv r hr, beq_self_eq_true]

end Go.E
