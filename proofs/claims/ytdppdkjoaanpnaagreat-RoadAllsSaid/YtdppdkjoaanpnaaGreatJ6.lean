/- Plain Lean: the net that the program makes of a valid plan. No condition. -/
import Derived.KernelRfl
import Derived.Test.YtdppdkjoaanpnaaGreatJ5
set_option linter.unusedVariables false
set_option linter.unusedSimpArgs false
namespace Go.E
open Go

/-- A net of a plan: what it says of ports and signals is what the plan says. -/
structure NetOf (p : Plan) (n : Net) : Prop where
  plan : n.p = p
  next : ∀ x, assoc n.next x = nextP p x
  reads : ∀ x, assoc n.reads x = if 0 ≤ readsP p x then some (readsP p x) else none

theorem clone_eq {α : Type} [DecidableEq α] (l : List α) (h : l.length ≤ 1000000) : nilS l (some []) ((appI ([] : List α) l).bind fun y => some y) = some l := by
  rw [appI_ok (by simp; omega)]
  cases l with
  | nil => simp [nilS, agree]
  | cons a l => rfl

theorem twin_eq (p : Plan) (hf : FewP p) : g_net_twin p = some p := by
  have q1 := hf.elems; have q2 := hf.joins; have q3 := hf.signals; have q4 := hf.lines
  have c1 : g_slices_Clone_apiElem p.elems = some p.elems := clone_eq _ (by omega)
  have c2 : g_slices_Clone_apiJoin p.joins = some p.joins := clone_eq _ (by omega)
  have c3 : g_slices_Clone_apiSignal p.signals = some p.signals := clone_eq _ (by omega)
  have c4 : g_slices_Clone_apiLine p.lines = some p.lines := clone_eq _ (by omega)
  unfold g_net_twin
  simp only [c1, c2, c3, c4, Option.bind_some]
  obtain ⟨b, hb, rfl⟩ := loop_st (l := p.lines) (step := g_net_twin_l1 p p.elems p.joins p.signals p.lines) (Post := fun b => b = p) (fun i c => c = p.lines) (fun c hc => by
      subst hc; exact ⟨p, by simp only [g_net_twin_l1, dge, cond_false], rfl⟩) (fun i a c ha hc => by
      subst hc
      have := ilt ha
      have hal := (hf.line i a ha).1
      have c5 : g_slices_Clone_int a.elems = some a.elems := clone_eq _ (by omega)
      refine .inr ⟨p.lines, ?_, rfl⟩
      simp only [g_net_twin_l1, dlt ha, cond_true, idx_nat, ha, Option.bind_some, c5, wi64_succ (show i < 1000000000 by omega)]
      have : setI p.lines (i : Int) (⟨a.name, a.elems⟩ : Line) = p.lines := by
        unfold setI
        apply List.ext_getElem?
        intro k
        rw [List.getElem?_set]
        split
        · rename_i h; simp only [Int.toNat_natCast] at h; subst h; split
          · exact ha.symm
          · rename_i h2; simp at h2; omega
        · rfl
      rw [this]) (c := p.lines) rfl
  exact hb

theorem readsF_app (x : Port) (s : Signal) : ∀ (l : List Signal) (i : Nat), readsF x i (l ++ [s]) = if 0 ≤ readsF x i l then readsF x i l else if s.at_ = x then ((i + l.length : Nat) : Int) else -1
  | [], i => by simp [readsF]
  | t :: l, i => by
    by_cases h : t.at_ = x
    · simp [readsF, h]
    · have e : ∀ r, readsF x i (t :: r) = readsF x (i + 1) r := fun r => by simp [readsF, h]
      simp only [List.cons_append, e, readsF_app x s l (i + 1), List.length_cons]
      rw [show i + 1 + l.length = i + (l.length + 1) by omega]

theorem new_lines (p y15 : Plan) (hf : FewP p) (s58 : Int × List (Port × Port)) (s140 : Int × List (Port × Int)) : ∃ a b, loopR (g_net_New_l3 p y15 s58 s140) (0, [], []) = some (some ⟨y15, s58.2, s140.2, a, b⟩, 0) := by
  have q4 := hf.lines
  obtain ⟨r, hr, a, b, rfl⟩ : ∃ r, loopR (g_net_New_l3 p y15 s58 s140) (0, [], []) = some r ∧ ∃ a b, r = (some ⟨y15, s58.2, s140.2, a, b⟩, 0) := by
    refine loop_st (l := p.lines) (fun _ _ => True) (fun c _ => ⟨_, by simp only [g_net_New_l3, dge, cond_false], c.1, c.2, rfl⟩) (fun i l c h _ => ?_) (c := (([], []) : List (Int × Arr2Int) × List (Int × Int))) trivial
    have := ilt h
    have hal := (hf.line i l h).1
    obtain ⟨t, ht⟩ : ∃ t : Int, ((bif decide (1 < (l.elems.length : Int)) then (idx l.elems 0).bind fun y1186 => ((bif (assoc s58.2 (⟨y1186, 0⟩ : Port)).isSome then (idx l.elems 1).bind fun y1195 => some ((((assoc s58.2 (⟨y1186, 0⟩ : Port)).getD (⟨0, 0⟩ : Port)).elem) == y1195) else some false : Option (Bool))).bind fun (t1192 : Bool) => bif t1192 then some 1 else some 0 else some 0 : Option (Int))) = some t := by
      match hl : l.elems with
      | [] => exact ⟨0, by simp⟩
      | [a] => exact ⟨0, by simp⟩
      | a :: b :: r =>
        have hd : decide (1 < ((a :: b :: r).length : Int)) = true := by simp; omega
        have i0 : idx (a :: b :: r) 0 = some a := rfl
        have i1 : idx (a :: b :: r) 1 = some b := rfl
        simp only [hd, cond_true, i0, i1, Option.bind_some]
        cases (assoc s58.2 (⟨a, 0⟩ : Port)).isSome with
        | false => exact ⟨0, rfl⟩
        | true =>
          simp only [cond_true, Option.bind_some]
          cases ((assoc s58.2 (⟨a, 0⟩ : Port)).getD (⟨0, 0⟩ : Port)).elem == b with
          | false => exact ⟨0, rfl⟩
          | true => exact ⟨1, rfl⟩
    refine .inr ?_
    simp only [g_net_New_l3, dlt h, cond_true, idx_nat, h, Option.bind_some, ht]
    obtain ⟨r, hr, c', rfl⟩ : ∃ r, loopR (g_net_New_l4 s58 ((i : Int), c) l) (t, 0, c.1, c.2) = some r ∧ ∃ c', r = .inl (((i + 1 : Nat) : Int), c') := by
      refine loop_up (fun k s => s.2.1 = (k : Int) ∧ k ≤ l.elems.length) l.elems.length ?_ ⟨rfl, Nat.zero_le _⟩
      rintro k ⟨x, j, d1, d2⟩ ⟨hj, hk⟩
      simp only at hj
      subst hj
      by_cases he : k = l.elems.length
      · subst he
        exact .inl ⟨.inl (((i + 1 : Nat) : Int), d1, d2), by simp only [g_net_New_l4, dge, cond_false, wi64_succ (show i < 1000000000 by omega)], (d1, d2), rfl⟩
      · have ha : l.elems[k]? = some (l.elems[k]'(by omega)) := List.getElem?_eq_getElem _
        exact .inr ⟨by omega, (((assoc s58.2 (⟨l.elems[k]'(by omega), wi64 (1 - x)⟩ : Port)).getD (⟨0, 0⟩ : Port)).fin, ((k + 1 : Nat) : Int), aput (l.elems[k]'(by omega)) (⟨(i : Int), (k : Int)⟩ : Arr2Int) d1, aput (l.elems[k]'(by omega)) x d2), by simp only [g_net_New_l4, dlt ha, cond_true, idx_nat, ha, Option.bind_some, wi64_succ (show k < 1000000000 by omega)], rfl, by omega⟩
    exact ⟨c', hr, trivial⟩
  exact ⟨a, b, hr⟩

theorem new_ok (p : Plan) (hv : Valid p) : ∃ n, g_net_New p = some (some n, 0) ∧ NetOf p n := by
  have q2 := hv.few.joins; have q3 := hv.few.signals
  unfold g_net_New
  simp only [plan_check_ok p hv, Option.bind_some, bne_self_eq_false, cond_false, twin_eq p hv.few]
  have l2 : ∀ s58 : Int × List (Port × Port), (∀ x, assoc s58.2 x = nextP p x) → ∃ r, loopR (g_net_New_l2 p p s58) (0, []) = some r ∧ ∃ n, r = (some n, 0) ∧ NetOf p n := by
    intro s58 hs
    refine loop_st (l := p.signals) (fun i c => ∀ x, assoc c x = if 0 ≤ readsF x 0 (p.signals.take i) then some (readsF x 0 (p.signals.take i)) else none) (fun c hI => ?_) (fun i s c h hI => ?_) (c := []) (fun x => by simp [assoc, readsF])
    · rw [List.take_length] at hI
      obtain ⟨a, b, hr⟩ := new_lines p p hv.few s58 ((p.signals.length : Int), c)
      exact ⟨_, by simp only [g_net_New_l2, dge, cond_false, hr]; rfl, _, rfl, ⟨rfl, hs, hI⟩⟩
    · have := ilt h
      refine .inr ⟨aput s.at_ (i : Int) c, by simp only [g_net_New_l2, dlt h, cond_true, idx_nat, h, Option.bind_some, wi64_succ (show i < 1000000000 by omega)], fun x => ?_⟩
      have hlen : (p.signals.take i).length = i := by rw [List.length_take]; omega
      rw [assoc_aput', List.take_add_one, h]
      simp only [Option.toList_some, readsF_app, hI, hlen]
      by_cases hx : x = s.at_
      · subst hx
        have hr := hv.sig.reads i s h
        have hnot : ¬ 0 ≤ readsF s.at_ 0 (p.signals.take i) := by
          intro h0
          rcases readsF_spec s.at_ (p.signals.take i) 0 with ⟨h1, _⟩ | ⟨k, t, h1, h2, _, _⟩
          · omega
          · obtain ⟨j, hj, hjt⟩ := mem_take (List.mem_of_getElem? h1)
            have := hv.sig.reads j t hjt
            rw [h2, hr] at this
            omega
        rw [if_pos rfl, if_neg hnot, if_pos rfl, if_pos (by omega)]
        simp
      · have hx' : ¬ s.at_ = x := fun e => hx e.symm
        by_cases h0 : 0 ≤ readsF x 0 (p.signals.take i)
        · simp only [if_neg hx, if_pos h0]
        · simp only [if_neg hx, if_neg h0, if_neg hx']; rfl
  obtain ⟨r, hr, n, rfl, hn⟩ : ∃ r, loopR (g_net_New_l1 p p) (0, []) = some r ∧ ∃ n, r = (some n, 0) ∧ NetOf p n := by
    refine loop_st (l := p.joins) (fun i c => ∀ x, assoc c x = nextL (p.joins.take i) x) (fun c hI => ?_) (fun i j c h hI => ?_) (c := []) (fun x => by simp [assoc, nextL])
    · rw [List.take_length] at hI
      obtain ⟨r, hr, h⟩ := l2 ((p.joins.length : Int), c) hI
      exact ⟨r, by simp only [g_net_New_l1, dge, cond_false, hr]; rfl, h⟩
    · have := ilt h
      exact .inr ⟨_, by simp only [g_net_New_l1, dlt h, cond_true, idx_nat, h, Option.bind_some, wi64_succ (show i < 1000000000 by omega)], next_step hv.join h hI⟩
  exact ⟨n, hr, hn⟩

theorem made_total (p : Plan) : ∃ o, g_L4_Made p = some o ∧ (g_R6_Fine p = some true → ∃ n, o = some n ∧ NetOf p n) := by
  obtain ⟨b, hb, hv⟩ := fine_total p
  unfold g_L4_Made
  simp only [hb, Option.bind_some]
  cases b with
  | false => exact ⟨none, rfl, fun h => by simp at h⟩
  | true =>
    obtain ⟨n, hn, ho⟩ := new_ok p (hv rfl)
    simp only [hn, Option.bind_some, Bool.not_true, cond_false]
    exact ⟨some n, rfl, fun _ => ⟨n, rfl, ho⟩⟩

end Go.E
/- Plain Lean: what a net says is what the plan says. No condition. -/
namespace Go.E
open Go

theorem g_R6_Kind_eq (p : Plan) (e : Int) : g_R6_Kind p e = some (kindP p e) := by
  unfold g_R6_Kind; rw [g_R6_kind_eq]; rfl

section
variable {p : Plan} {n : Net}
theorem net_elem (h : NetOf p n) (e : Int) : g_net_Net_elem n e = some ((idx p.elems e).getD ⟨ByteArray.empty, 0, 0⟩) := by
  unfold g_net_Net_elem
  rw [h.plan]
  by_cases h1 : e < 0
  · simp [h1, idx_none (.inl h1)]
  · by_cases h2 : (p.elems.length : Int) ≤ e
    · simp [h1, h2, idx_none (.inr h2)]
    · obtain ⟨a, ha⟩ := idx_of (l := p.elems) (n := e) (by omega) (by omega)
      simp [h1, h2, ha]

theorem net_Kind (h : NetOf p n) (e : Int) : g_net_Net_Kind n e = some (kindP p e) := by
  unfold g_net_Net_Kind kindP
  rw [net_elem h]
  cases idx p.elems e <;> rfl

theorem net_Next (h : NetOf p n) (x : Port) : g_net_Net_Next n x = some ((nextP p x).getD ⟨0, 0⟩, (nextP p x).isSome) := by
  unfold g_net_Net_Next; rw [h.next]

theorem readsP_cases (p : Plan) (x : Port) : readsP p x = -1 ∨ (0 ≤ readsP p x ∧ readsP p x < p.signals.length) := by
  rcases readsF_spec x p.signals 0 with ⟨h, _⟩ | ⟨k, s, h1, _, h3, _⟩
  · exact .inl h
  · have := ilt h1
    right
    unfold readsP
    rw [h3]; omega

theorem net_Reads (h : NetOf p n) (x : Port) : g_net_Net_Reads n x = some (readsP p x) := by
  unfold g_net_Net_Reads
  rw [h.reads]
  rcases readsP_cases p x with h1 | ⟨h1, _⟩
  · rw [if_neg (by omega), h1]; rfl
  · rw [if_pos h1]; rfl

/-- The ways through an element. -/
def outsP (p : Plan) (e i : Int) : List Way :=
  if hasP p ⟨e, i⟩ then if kindP p e = 1 then [⟨1 - i, 0⟩] else if kindP p e = 3 then [⟨if i = 0 then 1 else if i = 1 then 0 else if i = 2 then 3 else 2, 0⟩] else if kindP p e = 2 then if i = 0 then [⟨1, 1⟩, ⟨2, 2⟩] else [⟨0, i⟩] else [] else []

theorem R6_Outs_eq (p : Plan) (e i : Int) : g_R6_Outs p e i = some (outsP p e i) := by
  unfold g_R6_Outs outsP
  simp only [g_R6_has_eq, Option.bind_some, g_R6_kind_eq, cbeq]
  cases hh : hasP p ⟨e, i⟩ with
  | false => rfl
  | true =>
    obtain ⟨h1, h2, h3⟩ := hasP_fin hh
    simp only at h1 h2 h3
    simp only [Bool.not_true, cond_false, if_true]
    by_cases k1 : kindP p e = 1
    · simp only [if_pos k1, wi64_id (n := 1 - i) (by omega) (by omega)]
    · by_cases k3 : kindP p e = 3
      · simp only [if_neg k1, if_pos k3]
        have : i = 0 ∨ i = 1 ∨ i = 2 ∨ i = 3 := by omega
        rcases this with rfl | rfl | rfl | rfl <;> rfl
      · by_cases k2 : kindP p e = 2
        · simp only [if_neg k1, if_neg k3, if_pos k2]
          by_cases i0 : i = 0 <;> simp [i0]
        · simp only [if_neg k1, if_neg k3, if_neg k2]

theorem net_Outs (h : NetOf p n) (e i : Int) : g_net_Net_Outs n e i = some (outsP p e i) := by
  unfold g_net_Net_Outs outsP
  simp only [net_Kind h, Option.bind_some, g_plan_Ends_eq, cbeq]
  by_cases h0 : i < 0
  · have : hasP p ⟨e, i⟩ = false := by simp [hasP]; omega
    simp [h0, this]
  · by_cases h1 : endsF (kindP p e) ≤ i
    · have : hasP p ⟨e, i⟩ = false := by simp [hasP]; omega
      simp [h0, h1, this]
    · have hh : hasP p ⟨e, i⟩ = true := by simp [hasP]; omega
      obtain ⟨_, h2, h3⟩ := hasP_fin hh
      simp only at h2 h3
      simp only [h0, h1, decide_false, cond_false, Option.bind_some, hh, if_true]
      by_cases k1 : kindP p e = 1
      · simp only [if_pos k1, wi64_id (n := 1 - i) (by omega) (by omega)]
      · by_cases k3 : kindP p e = 3
        · simp only [if_neg k1, if_pos k3]
          have : i = 0 ∨ i = 1 ∨ i = 2 ∨ i = 3 := by omega
          rcases this with rfl | rfl | rfl | rfl <;> rfl
        · by_cases k2 : kindP p e = 2
          · simp only [if_neg k1, if_neg k3, if_pos k2]
            rw [k2] at h3
            have : i = 0 ∨ i = 1 ∨ i = 2 := by simp [endsF] at h3; omega
            rcases this with rfl | rfl | rfl <;> rfl
          · simp only [if_neg k1, if_neg k3, if_neg k2]

theorem outsP_len (p : Plan) (e i : Int) : (outsP p e i).length ≤ 2 := by
  unfold outsP
  repeat' split
  all_goals simp

end
end Go.E
/- Plain Lean: sorted rows without repetition. No condition. -/
namespace Go.E
open Go

end Go.E
/- The known answers of layer 23, reckoned by the kernel. No condition. -/
namespace Go.E
open Go Go.Proofs
set_option maxRecDepth 100000
theorem known7 : g_L7_known = some true := by kernel_rfl

end Go.E
/- Plain Lean: RoadFinds answers true, for every argument. No condition. -/
namespace Go.E
open Go

/-! ### rows that are one -/
theorem eq_loop {α : Type} [DecidableEq α] {a b : List α} (hl : a.length = b.length) (hb : a.length < 1000000) {step : Int → Option (Int ⊕ Bool)}
    (h : ∀ i : Nat, i ≤ a.length → step (i : Int) = if h : i < a.length then (if a[i] = b[i]'(by omega) then some (.inl ((i + 1 : Nat) : Int)) else some (.inr false)) else some (.inr true)) : loopR step 0 = some (decide (a = b)) := by
  by_cases hab : a = b
  · subst hab
    obtain ⟨r, h1, h2⟩ := loop_ix (l := a) (step := step) (Post := fun r => r = true) (fun _ _ => True) (fun _ => ⟨true, by rw [h _ (Nat.le_refl _)]; simp, rfl⟩)
      (fun i x hx _ => .inr ⟨by have := ilt hx; rw [h _ (by omega), dif_pos this, if_pos rfl], trivial⟩)
    rw [h1, h2]; simp
  · obtain ⟨r, h1, h2⟩ := loop_ix (l := a) (step := step) (Post := fun r => r = false) (fun i x => b[i]? = some x) (fun good => by
        exfalso; refine hab (List.ext_getElem hl fun i h1 h2 => ?_)
        have := good i _ (List.getElem?_eq_getElem h1)
        rw [List.getElem?_eq_getElem h2] at this
        exact (Option.some.inj this).symm)
      (fun i x hx _ => by
        have hi := ilt hx
        have hx' : a[i] = x := Option.some.inj ((List.getElem?_eq_getElem hi).symm.trans hx)
        rw [h _ (by omega), dif_pos hi]
        by_cases e : a[i] = b[i]'(by omega)
        · exact .inr ⟨by rw [if_pos e], by rw [List.getElem?_eq_getElem (by omega), ← e, hx']⟩
        · exact .inl ⟨false, by rw [if_neg e], rfl⟩)
    rw [h1, h2]; simp [hab]

theorem eq_step {α : Type} [DecidableEq α] {a b : List α} (hl : a.length = b.length) (hb : a.length < 1000000) (i : Nat) (hi : i ≤ a.length) :
    (bif decide ((i : Int) < (a.length : Int)) then (idx a i).bind fun y => (idx b i).bind fun z => bif (!(y == z)) then some (.inr false) else some (.inl (wi64 ((i : Int) + 1))) else some (.inr true) : Option (Int ⊕ Bool)) =
      if h : i < a.length then (if a[i] = b[i]'(by omega) then some (.inl ((i + 1 : Nat) : Int)) else some (.inr false)) else some (.inr true) := by
  by_cases h : i < a.length
  · have d : decide ((i : Int) < (a.length : Int)) = true := by simpa using h
    have h2 : b[i]? = some (b[i]'(by omega)) := List.getElem?_eq_getElem _
    simp only [d, cond_true, idx_nat, List.getElem?_eq_getElem h, h2, Option.bind_some, dif_pos h, wi64_succ (show i < 1000000000 by omega)]
    by_cases e : a[i] = b[i]'(by omega)
    · simp [e]
    · have : (a[i] == b[i]'(by omega)) = false := beq_eq_false_iff_ne.2 e
      simp only [this, Bool.not_false, cond_true, if_neg e]
  · have d : decide ((i : Int) < (a.length : Int)) = false := by simp; omega
    simp only [d, cond_false, dif_neg h]

theorem len_ne {α : Type} [DecidableEq α] {a b : List α} (h : a.length ≠ b.length) : decide (a = b) = false := by
  simp only [decide_eq_false_iff_not]; intro e; exact h (by rw [e])

theorem eqSteps2 (a b : List Step) (hb : a.length < 1000000) : g_R12_sameSteps a b = some (decide (a = b)) := by
  unfold g_R12_sameSteps
  rw [cbne]
  split
  · exact eq_loop (by omega) hb fun i hi => by unfold g_R12_sameSteps_l1; exact eq_step (by omega) hb i hi
  · rw [len_ne (by omega)]

theorem eqNeeds2 (a b : List Need) (hb : a.length < 1000000) : g_R12_SameNeeds a b = some (decide (a = b)) := by
  unfold g_R12_SameNeeds
  rw [cbne]
  split
  · exact eq_loop (by omega) hb fun i hi => by unfold g_R12_SameNeeds_l1; exact eq_step (by omega) hb i hi
  · rw [len_ne (by omega)]

theorem eqInts2 (a b : List Int) (hb : a.length < 1000000) : g_R6_SameInts a b = some (decide (a = b)) := by
  unfold g_R6_SameInts
  rw [cbne]
  split
  · exact eq_loop (by omega) hb fun i hi => by unfold g_R6_SameInts_l1; exact eq_step (by omega) hb i hi
  · rw [len_ne (by omega)]

/-- Roads that are looked at. -/
structure LightR (r : Road) : Prop where
  steps : r.steps.length ≤ 1000
  needs : r.needs.length ≤ 1000
  guards : r.guards.length ≤ 1000
  zone : r.zone.length ≤ 1000
  holds : r.holds.length ≤ 1000

theorem road_ext {a b : Road} : a = b ↔ a.frm = b.frm ∧ a.to = b.to ∧ a.fin = b.fin ∧ a.steps = b.steps ∧ a.needs = b.needs ∧ a.guards = b.guards ∧ a.zone = b.zone ∧ a.holds = b.holds ∧ a.bare = b.bare := by
  cases a; cases b; simp

theorem Same2_eq {a : Road} (h : LightR a) (b : Road) : g_R12_Same a b = some (decide (a = b)) := by
  have l1 := h.steps; have l2 := h.needs; have l3 := h.guards; have l4 := h.zone; have l5 := h.holds
  unfold g_R12_Same
  simp only [eqSteps2 a.steps b.steps (by omega), eqNeeds2 a.needs b.needs (by omega), eqNeeds2 a.guards b.guards (by omega), eqInts2 a.zone b.zone (by omega), eqInts2 a.holds b.holds (by omega), Option.bind_some, road_ext, cbeq]
  by_cases q1 : a.frm = b.frm
  · by_cases q2 : a.to = b.to
    · by_cases q3 : a.fin = b.fin
      · by_cases q9 : a.bare = b.bare
        · by_cases q4 : a.steps = b.steps
          · by_cases q5 : a.needs = b.needs
            · by_cases q6 : a.guards = b.guards
              · by_cases q7 : a.zone = b.zone
                · by_cases q8 : a.holds = b.holds
                  · simp [q1, q2, q3, q4, q5, q6, q7, q8, q9]
                  · simp [q1, q2, q3, q4, q5, q6, q7, q8, q9]
                · simp [q1, q2, q3, q4, q5, q6, q7, q9]
              · simp [q1, q2, q3, q4, q5, q6, q9]
            · simp [q1, q2, q3, q4, q5, q9]
          · simp [q1, q2, q3, q4, q9]
        · simp [q1, q2, q3, q9]
      · simp [q1, q2, q3]
    · simp [q1, q2]
  · simp [q1]

/-! ### find, elements, onto -/
end Go.E
/- Plain Lean: the roads of a signal: the document's search and the program's are one. No condition. -/
namespace Go.E
open Go

def mkR (s to fin : Int) (st : List Step) (nd : List Need) : Road := ⟨s, to, fin, st, nd, [], [], [], false⟩

def addN (nd : List Need) (e pos : Int) : List Need := if pos = 0 then nd else nd ++ [⟨e, pos⟩]

/-- The roads that go on from the steps st into x. -/
def onF (p : Plan) (s : Int) : Nat → List Step → List Need → Port → List Int → List Road
  | 0, _, _, _, _ => []
  | k + 1, st, nd, x, met => if x.elem ∈ met ∨ st.length = 12 then [] else if kindP p x.elem = 4 then [mkR s (-1) 2 (st ++ [⟨x.elem, x.fin, -1⟩]) nd] else
    (outsP p x.elem x.fin).flatMap fun w => if 0 ≤ readsP p ⟨x.elem, w.out⟩ then [mkR s (readsP p ⟨x.elem, w.out⟩) 1 (st ++ [⟨x.elem, x.fin, w.out⟩]) (addN nd x.elem w.pos)] else match nextP p ⟨x.elem, w.out⟩ with
      | none => [mkR s (-1) 3 (st ++ [⟨x.elem, x.fin, w.out⟩]) (addN nd x.elem w.pos)]
      | some y => onF p s k (st ++ [⟨x.elem, x.fin, w.out⟩]) (addN nd x.elem w.pos) y (met ++ [x.elem])

/-- What one way gives. -/
def wayR (p : Plan) (s : Int) (k : Nat) (st : List Step) (nd : List Need) (x : Port) (met : List Int) (w : Way) : List Road :=
  if 0 ≤ readsP p ⟨x.elem, w.out⟩ then [mkR s (readsP p ⟨x.elem, w.out⟩) 1 (st ++ [⟨x.elem, x.fin, w.out⟩]) (addN nd x.elem w.pos)] else match nextP p ⟨x.elem, w.out⟩ with
    | none => [mkR s (-1) 3 (st ++ [⟨x.elem, x.fin, w.out⟩]) (addN nd x.elem w.pos)]
    | some y => onF p s k (st ++ [⟨x.elem, x.fin, w.out⟩]) (addN nd x.elem w.pos) y (met ++ [x.elem])

theorem onF_succ (p : Plan) (s : Int) (k : Nat) (st : List Step) (nd : List Need) (x : Port) (met : List Int) :
    onF p s (k + 1) st nd x met = if x.elem ∈ met ∨ st.length = 12 then [] else if kindP p x.elem = 4 then [mkR s (-1) 2 (st ++ [⟨x.elem, x.fin, -1⟩]) nd] else (outsP p x.elem x.fin).flatMap (wayR p s k st nd x met) := rfl

theorem wayR_len (p : Plan) (s : Int) (k : Nat) (st : List Step) (nd : List Need) (x : Port) (met : List Int) (w : Way) (ih : ∀ st nd x met, (onF p s k st nd x met).length ≤ 2 ^ k) : (wayR p s k st nd x met w).length ≤ 2 ^ k := by
  have h1 : 1 ≤ 2 ^ k := Nat.one_le_two_pow
  unfold wayR
  split
  · simp; omega
  · split
    · simp; omega
    · exact ih _ _ _ _

theorem flat_lenB {α β : Type} (f : α → List β) (b : Nat) : ∀ l : List α, (∀ a ∈ l, (f a).length ≤ b) → (l.flatMap f).length ≤ l.length * b
  | [], _ => by simp
  | a :: l, h => by
    have h1 := h a (by simp)
    have h2 := flat_lenB f b l fun x hx => h x (by simp [hx])
    simp only [List.flatMap_cons, List.length_append, List.length_cons, Nat.add_mul]
    omega

theorem onF_len (p : Plan) (s : Int) : ∀ (k : Nat) (st : List Step) (nd : List Need) (x : Port) (met : List Int), (onF p s k st nd x met).length ≤ 2 ^ k
  | 0, _, _, _, _ => by simp [onF]
  | k + 1, st, nd, x, met => by
    have h1 : 1 ≤ 2 ^ (k + 1) := Nat.one_le_two_pow
    rw [onF_succ]
    split
    · simp
    · split
      · simp; omega
      · have h2 := flat_lenB (wayR p s k st nd x met) (2 ^ k) (outsP p x.elem x.fin) fun w _ => wayR_len p s k st nd x met w (onF_len p s k)
        have h3 := outsP_len p x.elem x.fin
        have h4 : (outsP p x.elem x.fin).length * 2 ^ k ≤ 2 * 2 ^ k := Nat.mul_le_mul_right _ h3
        rw [Nat.pow_succ]; omega

/-! ### the document's search -/
theorem In_eq (l : List Int) (hl : l.length < 1000000) (x : Int) : g_R6_In l x = some (decide (x ∈ l)) := by
  unfold g_R6_In
  obtain ⟨b, h1, h2⟩ := loop_ix (l := l) (step := g_R6_In_l1 l x) (Post := fun b => b = decide (x ∈ l)) (fun _ y => y ≠ x) (fun good => ⟨false, by simp [g_R6_In_l1], by
      symm; rw [decide_eq_false_iff_not]; intro hm
      obtain ⟨i, hi⟩ := List.getElem?_of_mem hm
      exact good i x hi rfl⟩) (fun i a ha _ => by
      have := ilt ha
      by_cases e : a = x
      · exact .inl ⟨true, by simp only [g_R6_In_l1, dlt ha, cond_true, idx_nat, ha, Option.bind_some, e, beq_self_eq_true], by symm; rw [decide_eq_true_iff]; subst e; exact List.mem_of_getElem? ha⟩
      · have : (a == x) = false := beq_eq_false_iff_ne.2 e
        exact .inr ⟨by simp only [g_R6_In_l1, dlt ha, cond_true, idx_nat, ha, Option.bind_some, this, cond_false, wi64_succ (show i < 1000000000 by omega)], e⟩)
  rw [h1, h2]

theorem with_eq (r : Road) (s : Step) (pos fin to : Int) (h1 : r.steps.length ≤ 100) (h2 : r.needs.length ≤ 100) : g_R12_with r s pos fin to = some (mkR r.frm to fin (r.steps ++ [s]) (addN r.needs s.elem pos)) := by
  unfold g_R12_with
  rw [appI_ok (by simp; omega)]
  simp only [Option.bind_some, List.nil_append]
  rw [appI_ok (by simp; omega)]
  simp only [Option.bind_some]
  rw [appI_ok (by simp; omega)]
  simp only [Option.bind_some, List.nil_append, cbne]
  unfold addN mkR
  by_cases e : pos = 0
  · simp [e]
  · simp only [if_neg e]
    rw [appI_ok (by simp; omega)]
    simp

theorem addN_len (nd : List Need) (e pos : Int) : (addN nd e pos).length ≤ nd.length + 1 := by
  unfold addN; split <;> simp

/-- The document's search, with fuel. -/
noncomputable def onG (m : Nat) : Plan × Road × Port × List Int → Option (List Road) := recF (fun rc a => g_R12_on_b rc a.1 a.2.1 a.2.2.1 a.2.2.2) m

theorem on_eq {p : Plan} (hf : FewP p) (s : Int) : ∀ (k m : Nat) (to fin : Int) (st : List Step) (nd : List Need) (x : Port) (met : List Int), k ≤ m → st.length + k = 13 → nd.length ≤ st.length → met.length ≤ st.length + 1 → 1 ≤ k →
    onG m (p, (⟨s, to, fin, st, nd, [], [], [], false⟩ : Road), x, met) = some (onF p s k st nd x met)
  | 0, _, _, _, _, _, _, _, _, _, _, _, h => by omega
  | k + 1, 0, _, _, _, _, _, _, h, _, _, _, _ => by omega
  | k + 1, m + 1, to, fin, st, nd, x, met, hkm, hst, hnd, hmet, _ => by
    have hpow : 2 ^ k ≤ 2 ^ 12 := Nat.pow_le_pow_right (by decide) (by omega)
    show g_R12_on_b (onG m) p ⟨s, to, fin, st, nd, [], [], [], false⟩ x met = _
    unfold g_R12_on_b
    rw [In_eq met (by omega) x.elem, onF_succ]
    simp only [Option.bind_some]
    by_cases hm : x.elem ∈ met
    · simp [hm]
    · simp only [hm, decide_false, cond_false, false_or, Option.bind_some]
      by_cases hl : st.length = 12
      · have : (((st.length : Nat) : Int) == 12) = true := by rw [beq_iff_eq]; omega
        simp only [this, cond_true, if_pos hl]
      · have : (((st.length : Nat) : Int) == 12) = false := by rw [beq_eq_false_iff_ne]; omega
        simp only [this, cond_false, if_neg hl]
        rw [appI_ok (by simp; omega)]
        simp only [Option.bind_some, List.nil_append]
        rw [appI_ok (by simp; omega)]
        simp only [Option.bind_some, g_R6_Kind_eq, cbeq]
        by_cases hk : kindP p x.elem = 4
        · simp only [if_pos hk, with_eq (⟨s, to, fin, st, nd, [], [], [], false⟩ : Road) ⟨x.elem, x.fin, -1⟩ 0 2 (-1) (by simp only; omega) (by simp only; omega), Option.bind_some, addN, if_true]
        · simp only [if_neg hk, R6_Outs_eq, Option.bind_some]
          have hol := outsP_len p x.elem x.fin
          have wl : ∀ w, (wayR p s k st nd x met w).length ≤ 2 ^ k := fun w => wayR_len p s k st nd x met w (onF_len p s k)
          obtain ⟨b, h1, h2⟩ := loop_st (l := outsP p x.elem x.fin) (step := g_R12_on_b_l1 p ⟨s, to, fin, st, nd, [], [], [], false⟩ x (onG m) (met ++ [x.elem]) (outsP p x.elem x.fin))
            (Post := fun b => b = (outsP p x.elem x.fin).flatMap (wayR p s k st nd x met)) (fun i o => o = ((outsP p x.elem x.fin).take i).flatMap (wayR p s k st nd x met)) (c := [])
            (fun o ho => ⟨o, by simp [g_R12_on_b_l1], by rw [ho, List.take_length]⟩)
            (fun i w o hw ho => by
              have hi := ilt hw
              have hol2 : o.length ≤ 2 * 2 ^ k := by
                rw [ho]
                have h5 := flat_lenB (wayR p s k st nd x met) (2 ^ k) ((outsP p x.elem x.fin).take i) fun w _ => wl w
                have h6 : ((outsP p x.elem x.fin).take i).length * 2 ^ k ≤ 2 * 2 ^ k := Nat.mul_le_mul_right _ (by rw [List.length_take]; omega)
                omega
              have hw2 := wl w
              refine .inr ⟨o ++ wayR p s k st nd x met w, ?_, by rw [ho, List.take_add_one, hw]; simp⟩
              have hb : o.length + (wayR p s k st nd x met w).length ≤ 4294967296 := by omega
              simp only [g_R12_on_b_l1, dlt hw, cond_true, idx_nat, hw, Option.bind_some, g_R6_Reads_eq p (show p.signals.length < 1000000 by have := hf.signals; omega)]
              unfold wayR at hb ⊢
              by_cases hr : 0 ≤ readsP p ⟨x.elem, w.out⟩
              · rw [if_pos hr] at hb ⊢
                simp only [hr, decide_true, cond_true, with_eq (⟨s, to, fin, st, nd, [], [], [], false⟩ : Road) ⟨x.elem, x.fin, w.out⟩ w.pos 1 (readsP p ⟨x.elem, w.out⟩) (by simp only; omega) (by simp only; omega), Option.bind_some]
                rw [appI_ok hb]
                simp only [Option.bind_some, wi64_succ (show i < 1000000000 by omega)]
              · rw [if_neg hr] at hb ⊢
                simp only [hr, decide_false, cond_false, g_R6_Next_eq p (by have := hf.joins; omega), Option.bind_some]
                cases hnx : nextP p ⟨x.elem, w.out⟩ with
                | none =>
                  rw [hnx] at hb
                  simp only [Option.isSome_none, Bool.not_false, cond_true, with_eq (⟨s, to, fin, st, nd, [], [], [], false⟩ : Road) ⟨x.elem, x.fin, w.out⟩ w.pos 3 (-1) (by simp only; omega) (by simp only; omega), Option.bind_some]
                  rw [appI_ok hb]
                  simp only [Option.bind_some, wi64_succ (show i < 1000000000 by omega)]
                | some y =>
                  rw [hnx] at hb
                  simp only at hb
                  have hal := addN_len nd x.elem w.pos
                  have hrec := on_eq hf s k m (-1) 0 (st ++ [⟨x.elem, x.fin, w.out⟩]) (addN nd x.elem w.pos) y (met ++ [x.elem]) (by omega) (by simp; omega) (by simp; omega) (by simp; omega) (by omega)
                  simp only [Option.isSome_some, Option.getD_some, Bool.not_true, cond_false, with_eq (⟨s, to, fin, st, nd, [], [], [], false⟩ : Road) ⟨x.elem, x.fin, w.out⟩ w.pos 0 (-1) (by simp only; omega) (by simp only; omega), Option.bind_some]
                  unfold mkR
                  rw [hrec]
                  simp only [Option.bind_some]
                  rw [appI_ok hb]
                  simp only [Option.bind_some, wi64_succ (show i < 1000000000 by omega)])
            (by simp)
          rw [show (0 : Int) = ((0 : Nat) : Int) from rfl] at *
          rw [h1, h2]

/-- The roads of a signal. -/
def ofF (p : Plan) (s : Int) : List Road := match idx p.signals s with
  | none => []
  | some a => match nextP p a.at_ with
    | none => []
    | some y => onF p s 13 [] [] y [a.at_.elem]

theorem At_eq (p : Plan) (s : Int) : g_R6_At p s = some (match idx p.signals s with | none => (⟨0, 0⟩, false) | some a => (a.at_, true)) := by
  unfold g_R6_At
  by_cases h1 : s < 0
  · simp [h1, idx_none (.inl h1)]
  · by_cases h2 : (p.signals.length : Int) ≤ s
    · simp [h1, h2, idx_none (.inr h2)]
    · obtain ⟨a, ha⟩ := idx_of (l := p.signals) (n := s) (by omega) (by omega)
      simp [h1, h2, ha]

theorem Of_eq {p : Plan} (hf : FewP p) (s : Int) : g_R12_Of p s = some (ofF p s) := by
  unfold g_R12_Of ofF
  rw [At_eq]
  cases idx p.signals s with
  | none => rfl
  | some a =>
    simp only [Option.bind_some, Bool.not_true, cond_false, g_R6_Next_eq p (by have := hf.joins; omega)]
    cases nextP p a.at_ with
    | none => rfl
    | some y =>
      have := on_eq hf s 13 1000 0 0 [] [] y [a.at_.elem] (by omega) rfl (by simp) (by simp) (by omega)
      simp only [Option.isSome_some, Option.getD_some, Bool.not_true, cond_false]
      show (onG 1000 _).bind _ = _
      rw [this]; rfl

end Go.E
/- Plain Lean: the program's search for roads gives what the document's does. No condition. -/
namespace Go.E
open Go

/-- The points among the steps, as they are to lie. -/
def needsL : List Step → List Int → List Need
  | s :: st, q :: ps => if q = 0 then needsL st ps else ⟨s.elem, q⟩ :: needsL st ps
  | _, _ => []

theorem needsL_snoc : ∀ (st : List Step) (ps : List Int) (s : Step) (q : Int), st.length = ps.length → needsL (st ++ [s]) (ps ++ [q]) = addN (needsL st ps) s.elem q
  | [], [], s, q, _ => by simp [needsL, addN]
  | [], _ :: _, _, _, h => by simp at h
  | _ :: _, [], _, _, h => by simp at h
  | a :: st, b :: ps, s, q, h => by
    simp only [List.cons_append, needsL]
    rw [needsL_snoc st ps s q (by simpa using h)]
    unfold addN
    split <;> split <;> simp

theorem needsL_len : ∀ (st : List Step) (ps : List Int), (needsL st ps).length ≤ st.length
  | [], ps => by simp [needsL]
  | _ :: _, [] => by simp [needsL]
  | a :: st, b :: ps => by
    have := needsL_len st ps
    unfold needsL
    split
    · simp; omega
    · simp; omega

theorem needs_loop {st : List Step} {ps : List Int} (hl : st.length = ps.length) (hb : st.length < 1000) {β : Type} {step : Int × List Need → Option ((Int × List Need) ⊕ (β × List Need))} {c : β}
    (h : ∀ (i : Int) (o : List Need), step (i, o) = bif decide (i < (st.length : Int)) then (((idx st i).bind fun y => (idx ps i).bind fun z => bif (z != 0) then (idx ps i).bind fun z2 => (appI o [(⟨y.elem, z2⟩ : Need)]).bind fun w => some w else some o : Option ((List Need)))).bind fun (t : (List Need)) => some (.inl (wi64 (i + 1), t)) else some (.inr (c, o))) :
    loopR step (0, []) = some (c, needsL st ps) := by
  obtain ⟨b, h1, h2⟩ := loop_st (l := st) (step := step) (Post := fun b => b = (c, needsL st ps)) (fun i o => o = needsL (st.take i) (ps.take i)) (c := [])
    (fun o ho => ⟨(c, o), by rw [h]; simp, by rw [ho, List.take_length, hl, List.take_length]⟩)
    (fun i a o ha ho => by
      have hi := ilt ha
      have hz : ps[i]? = some (ps[i]'(by omega)) := List.getElem?_eq_getElem _
      have hol : o.length ≤ 1000 := by
        have := needsL_len (st.take i) (ps.take i)
        rw [ho]; rw [List.length_take] at this; omega
      have ht : needsL (st.take (i + 1)) (ps.take (i + 1)) = addN o a.elem (ps[i]'(by omega)) := by
        rw [List.take_add_one, List.take_add_one, ha, hz, ho]
        exact needsL_snoc _ _ _ _ (by simp; omega)
      refine .inr ⟨addN o a.elem (ps[i]'(by omega)), ?_, ht.symm⟩
      rw [h]
      simp only [dlt ha, cond_true, idx_nat, ha, hz, Option.bind_some, cbne]
      unfold addN
      by_cases e : ps[i]'(by omega) = 0
      · simp only [if_pos e, Option.bind_some, wi64_succ (show i < 1000000000 by omega)]
      · simp only [if_neg e]
        rw [appI_ok (by simp; omega)]
        simp only [Option.bind_some, wi64_succ (show i < 1000000000 by omega)])
    (by simp [needsL])
  rw [h1, h2]

section
variable {p : Plan} {n : Net}

theorem net_At_eq (hn : NetOf p n) (s : Int) : g_net_Net_At n s = some (match idx p.signals s with | none => (⟨0, 0⟩, false) | some a => (a.at_, true)) := by
  have := At_eq p s
  unfold g_R6_At at this
  unfold g_net_Net_At
  rw [hn.plan]; exact this

theorem may_eq (b : Int) (st : List Step) (ps : List Int) (lf : List (List Way)) (e : Int) (hl : st.length ≤ 1000) : g_road_path_may ⟨b, st, ps, lf⟩ e = some (decide (st.length < 12 ∧ e ≠ b ∧ e ∉ st.map (·.elem))) := by
  have key : g_slices_ContainsFunc_apiStep_c83 st e = some (decide (e ∈ st.map (·.elem))) := by
    unfold g_slices_ContainsFunc_apiStep_c83
    obtain ⟨t, h1, h2⟩ := loop_ix (l := st) (step := g_slices_ContainsFunc_apiStep_c83_l1 st e) (Post := fun t => decide (0 ≤ t) = decide (e ∈ st.map (·.elem))) (fun _ s => s.elem ≠ e)
      (fun good => ⟨-1, by simp [g_slices_ContainsFunc_apiStep_c83_l1], by
        rw [show decide ((0 : Int) ≤ -1) = false by decide]
        symm; rw [decide_eq_false_iff_not]; intro hm
        obtain ⟨s, hs, he⟩ := List.mem_map.1 hm
        obtain ⟨i, hi⟩ := List.getElem?_of_mem hs
        exact good i s hi he⟩)
      (fun i s hs _ => by
        have := ilt hs
        by_cases c : s.elem = e
        · refine .inl ⟨(i : Int), by simp only [g_slices_ContainsFunc_apiStep_c83_l1, g_road_path_may_1, dlt hs, cond_true, idx_nat, hs, Option.bind_some, c, beq_self_eq_true], ?_⟩
          rw [show decide ((0 : Int) ≤ (i : Int)) = true by simp]
          symm; rw [decide_eq_true_iff]; exact List.mem_map.2 ⟨s, List.mem_of_getElem? hs, c⟩
        · have cb : (s.elem == e) = false := beq_eq_false_iff_ne.2 c
          exact .inr ⟨by simp only [g_slices_ContainsFunc_apiStep_c83_l1, g_road_path_may_1, dlt hs, cond_true, idx_nat, hs, Option.bind_some, cb, cond_false, wi64_succ (show i < 1000000000 by omega)], c⟩)
    rw [h1]; simp only [Option.bind_some, h2]
  unfold g_road_path_may
  rw [key]
  by_cases h1 : st.length < 12
  · by_cases h2 : e = b
    · have : decide ((st.length : Int) < 12) = true := by simp; omega
      simp [this, h2]
    · have d1 : decide ((st.length : Int) < 12) = true := by simp; omega
      have d2 : (e != b) = true := bne_iff_ne.2 h2
      simp only [d1, d2, cond_true, Option.bind_some, h1, h2, ne_eq, not_false_eq_true, true_and, decide_not]
  · have : decide ((st.length : Int) < 12) = false := by simp; omega
    simp [this, h1]

theorem Clone_steps (l : List Step) (h : l.length ≤ 1000000) : g_slices_Clone_apiStep l = some l := clone_eq l h

/-! ### the program's search: what comes of a state -/
/-- From the inner loop on. -/
noncomputable def innC (n : Net) (s : Int) (a : Port) (b : Bool) (o : List Road) (st : List Step) (ps : List Int) (lf : List (List Way)) : Option (List Road) :=
  (loopR (g_road_Of_l3 n s) (o, st, ps, lf)).bind fun r => match r with
    | .inl s' => loopR (g_road_Of_l1 n s (a, b)) s'
    | .inr x => some x

theorem out_eq (s : Int) (a : Port) (b : Bool) (x : Port) (o : List Road) (st : List Step) (ps : List Int) (lf : List (List Way)) {o' : List Road} {st' : List Step} {ps' : List Int} {lf' : List (List Way)}
    (h : g_road_Of_l1 n s (a, b) (x.elem, x.fin, o, st, ps, lf) = loopR (g_road_Of_l3 n s) (o', st', ps', lf')) : loopR (g_road_Of_l1 n s (a, b)) (x.elem, x.fin, o, st, ps, lf) = innC n s a b o' st' ps' lf' := by
  rw [loopR_eq, h]
  unfold innC
  cases loopR (g_road_Of_l3 n s) (o', st', ps', lf') with
  | none => rfl
  | some r => cases r <;> rfl

theorem inn_step {s : Int} {a : Port} {b : Bool} {o o' : List Road} {st st' : List Step} {ps ps' : List Int} {lf lf' : List (List Way)} (h : g_road_Of_l3 n s (o, st, ps, lf) = some (.inl (o', st', ps', lf'))) : innC n s a b o st ps lf = innC n s a b o' st' ps' lf' := by
  unfold innC
  rw [loopR_inl h]

theorem inn_go {s : Int} {a : Port} {b : Bool} {o : List Road} {st : List Step} {ps : List Int} {lf : List (List Way)} {x : Port} {o' : List Road} {st' : List Step} {ps' : List Int} {lf' : List (List Way)} (h : g_road_Of_l3 n s (o, st, ps, lf) = some (.inr (.inl (x.elem, x.fin, o', st', ps', lf')))) :
    innC n s a b o st ps lf = loopR (g_road_Of_l1 n s (a, b)) (x.elem, x.fin, o', st', ps', lf') := by
  unfold innC
  rw [loopR_inr h]; rfl

theorem wl_snoc {α : Type} (l : List α) (x : α) (hl : l.length < 1000000) : wi64 (((l ++ [x]).length : Int) - 1) = (l.length : Int) := by
  have : (((l ++ [x]).length : Int) - 1) = (l.length : Int) := by simp
  rw [this, wi64_id] <;> omega

theorem idx_sn {α : Type} {l : List α} {m : Nat} (x : α) (h : l.length = m) : idx (l ++ [x]) (m : Int) = some x := by
  rw [idx_nat]; subst h; simp

theorem slO_nil {α : Type} {l : List α} (h : l ≠ []) (a b : Int) : slO l a b = slI l a b := by
  cases l with
  | nil => exact absurd rfl h
  | cons x l => rfl

theorem slO_at {α : Type} {l : List α} {m : Nat} (x : α) (h : l.length = m) : slO (l ++ [x]) 0 (m : Int) = some l := by
  subst h
  rw [slO_nil (by simp)]
  unfold slI
  rw [if_pos ⟨by omega, by omega, by simp; omega⟩]; simp

theorem setI_at {α : Type} {l : List α} {m : Nat} (x y : α) (h : l.length = m) : setI (l ++ [x]) (m : Int) y = l ++ [y] := by
  subst h
  unfold setI
  simp

theorem inn_end (s : Int) (o : List Road) : g_road_Of_l3 n s (o, [], [], []) = some (.inr (.inr o)) := rfl

theorem inn_pop (s : Int) (o : List Road) (st : List Step) (ps : List Int) (lf : List (List Way)) (sp : Step) (q : Int) (hl : st.length < 1000) (hp : ps.length = st.length) (hf : lf.length = st.length) :
    g_road_Of_l3 n s (o, st ++ [sp], ps ++ [q], lf ++ [[]]) = some (.inl (o, st, ps, lf)) := by
  have d : decide ((0 : Int) < ((st ++ [sp]).length : Int)) = true := by simp
  unfold g_road_Of_l3
  simp only [d, cond_true, wl_snoc st sp (by omega), idx_sn _ hf, Option.bind_some, List.length_nil, slO_at _ rfl, slO_at _ hp, slO_at _ hf]
  rfl

theorem inn_way (hn : NetOf p n) (s : Int) (o : List Road) (st : List Step) (ps : List Int) (lf : List (List Way)) (sp : Step) (q : Int) (w : Way) (ws : List Way) (hl : st.length < 900) (hp : ps.length = st.length) (hf : lf.length = st.length) (ho : o.length < 1000000) :
    g_road_Of_l3 n s (o, st ++ [sp], ps ++ [q], lf ++ [w :: ws]) =
      if 0 ≤ readsP p ⟨sp.elem, w.out⟩ then some (.inl (o ++ [mkR s (readsP p ⟨sp.elem, w.out⟩) 1 (st ++ [⟨sp.elem, sp.in_, w.out⟩]) (needsL (st ++ [⟨sp.elem, sp.in_, w.out⟩]) (ps ++ [w.pos]))], st ++ [⟨sp.elem, sp.in_, w.out⟩], ps ++ [w.pos], lf ++ [ws])) else match nextP p ⟨sp.elem, w.out⟩ with
        | none => some (.inl (o ++ [mkR s (-1) 3 (st ++ [⟨sp.elem, sp.in_, w.out⟩]) (needsL (st ++ [⟨sp.elem, sp.in_, w.out⟩]) (ps ++ [w.pos]))], st ++ [⟨sp.elem, sp.in_, w.out⟩], ps ++ [w.pos], lf ++ [ws]))
        | some y => some (.inr (.inl (y.elem, y.fin, o, st ++ [⟨sp.elem, sp.in_, w.out⟩], ps ++ [w.pos], lf ++ [ws]))) := by
  have d : decide ((0 : Int) < ((st ++ [sp]).length : Int)) = true := by simp
  have d2 : (((w :: ws).length : Int) == 0) = false := by rw [beq_eq_false_iff_ne]; simp; omega
  have d3 : idx (w :: ws) 0 = some w := rfl
  have d4 : slI (w :: ws) 1 ((w :: ws).length : Int) = some ws := by
    unfold slI
    rw [if_pos ⟨by omega, by simp; omega, by simp⟩]; simp
  unfold g_road_Of_l3
  simp only [d, cond_true, wl_snoc st sp (by omega), idx_sn _ hf, idx_sn _ hp, idx_sn _ (rfl : st.length = st.length), Option.bind_some, d2, cond_false, d3, d4, setI_at _ _ hf, setI_at _ _ hp, setI_at _ _ (rfl : st.length = st.length), net_Reads hn, net_Next hn]
  have hst : (st ++ [(⟨sp.elem, sp.in_, w.out⟩ : Step)]).length ≤ 1000000 := by simp; omega
  have hls : ∀ (t : Step), (st ++ [(⟨sp.elem, sp.in_, w.out⟩ : Step)]).length = (ps ++ [w.pos]).length := fun _ => by simp [hp]
  have ha : ∀ r : Road, o.length + [r].length ≤ 4294967296 := fun r => by simp; omega
  by_cases hr : 0 ≤ readsP p ⟨sp.elem, w.out⟩
  · rw [if_pos hr]
    simp only [hr, decide_true, cond_true, Clone_steps _ hst, Option.bind_some]
    rw [needs_loop (c := st ++ [⟨sp.elem, sp.in_, w.out⟩]) (hls sp) (by simp; omega) (fun i o => by unfold g_road_Of_l4; simp only [wl_snoc st sp (by omega), setI_at _ _ hp, setI_at _ _ (rfl : st.length = st.length)])]
    simp only [Option.bind_some, appI_ok (ha _)]
    rfl
  · rw [if_neg hr]
    simp only [hr, decide_false, cond_false]
    cases hnx : nextP p ⟨sp.elem, w.out⟩ with
    | none =>
      simp only [Option.isSome_none, Bool.not_false, cond_true, Clone_steps _ hst, Option.bind_some]
      rw [needs_loop (c := st ++ [⟨sp.elem, sp.in_, w.out⟩]) (hls sp) (by simp; omega) (fun i o => by unfold g_road_Of_l5; simp only [wl_snoc st sp (by omega), setI_at _ _ hp, setI_at _ _ (rfl : st.length = st.length)])]
      simp only [Option.bind_some, appI_ok (ha _)]
      rfl
    | some y =>
      simp only [Option.isSome_some, Option.getD_some, Bool.not_true, cond_false]

theorem outs_gate {e i : Int} (h : kindP p e = 4) : outsP p e i = [] := by
  unfold outsP
  rw [h]; simp

theorem may_step (hn : NetOf p n) (s : Int) (a : Port) (b : Bool) (x : Port) (o : List Road) (st : List Step) (ps : List Int) (lf : List (List Way)) (hl : st.length ≤ 13) (hp : ps.length = st.length) (hf : lf.length = st.length) (ho : o.length < 1000000) :
    loopR (g_road_Of_l1 n s (a, b)) (x.elem, x.fin, o, st, ps, lf) = if st.length < 12 ∧ x.elem ≠ a.elem ∧ x.elem ∉ st.map (·.elem) then
      innC n s a b (if kindP p x.elem = 4 then o ++ [mkR s (-1) 2 (st ++ [⟨x.elem, x.fin, -1⟩]) (needsL (st ++ [⟨x.elem, x.fin, -1⟩]) (ps ++ [0]))] else o) (st ++ [⟨x.elem, x.fin, -1⟩]) (ps ++ [0]) (lf ++ [outsP p x.elem x.fin]) else innC n s a b o st ps lf := by
  by_cases hm : st.length < 12 ∧ x.elem ≠ a.elem ∧ x.elem ∉ st.map (·.elem)
  · rw [if_pos hm]
    have ha : ∀ {α : Type} (l : List α) (x : α), l.length < 2000000 → l.length + [x].length ≤ 4294967296 := fun l x h => by simp; omega
    by_cases hk : kindP p x.elem = 4
    · rw [if_pos hk]
      refine out_eq s a b x o st ps lf ?_
      have hst : (st ++ [(⟨x.elem, x.fin, -1⟩ : Step)]).length ≤ 1000000 := by simp; omega
      unfold g_road_Of_l1
      simp only [may_eq a.elem st ps lf x.elem (by omega), Option.bind_some, decide_eq_true hm, cond_true, appI_ok (ha st ⟨x.elem, x.fin, -1⟩ (by omega)), appI_ok (ha ps 0 (by omega)), net_Outs hn, appI_ok (ha lf (outsP p x.elem x.fin) (by omega)), net_Kind hn, cbeq, if_pos hk, Clone_steps _ hst]
      rw [needs_loop (c := st ++ [⟨x.elem, x.fin, -1⟩]) (st := st ++ [⟨x.elem, x.fin, -1⟩]) (ps := ps ++ [0]) (by simp [hp]) (by simp; omega) (fun i o => by unfold g_road_Of_l2; rfl)]
      simp only [Option.bind_some, appI_ok (ha o _ (by omega))]
      rfl
    · rw [if_neg hk]
      refine out_eq s a b x o st ps lf ?_
      unfold g_road_Of_l1
      simp only [may_eq a.elem st ps lf x.elem (by omega), Option.bind_some, decide_eq_true hm, cond_true, appI_ok (ha st ⟨x.elem, x.fin, -1⟩ (by omega)), appI_ok (ha ps 0 (by omega)), net_Outs hn, appI_ok (ha lf (outsP p x.elem x.fin) (by omega)), net_Kind hn, cbeq, if_neg hk]
  · rw [if_neg hm]
    refine out_eq s a b x o st ps lf ?_
    unfold g_road_Of_l1
    simp only [may_eq a.elem st ps lf x.elem (by omega), Option.bind_some, decide_eq_false hm, cond_false]

/-- The program's search from an element on: the roads that go on from there, then back. -/
theorem outer (hn : NetOf p n) (s : Int) (a : Port) (b : Bool) : ∀ (k : Nat) (x : Port) (o : List Road) (st : List Step) (ps : List Int) (lf : List (List Way)), st.length + k = 13 → ps.length = st.length → lf.length = st.length → o.length + 2 ^ k ≤ 100000 →
    loopR (g_road_Of_l1 n s (a, b)) (x.elem, x.fin, o, st, ps, lf) = innC n s a b (o ++ onF p s k st (needsL st ps) x (a.elem :: st.map (·.elem))) st ps lf
  | 0, x, o, st, ps, lf, hk, hp, hf, ho => by
    rw [may_step hn s a b x o st ps lf (by omega) hp hf (by omega), if_neg (by omega)]
    simp [onF]
  | k + 1, x, o, st, ps, lf, hk, hp, hf, ho => by
    have hpow : 2 ^ k ≤ 2 ^ 12 := Nat.pow_le_pow_right (by decide) (by omega)
    rw [Nat.pow_succ] at ho
    rw [may_step hn s a b x o st ps lf (by omega) hp hf (by omega), onF_succ]
    by_cases hm : st.length < 12 ∧ x.elem ≠ a.elem ∧ x.elem ∉ st.map (·.elem)
    · have hm2 : ¬ (x.elem ∈ a.elem :: st.map (·.elem) ∨ st.length = 12) := by
        rintro (h | h)
        · rcases List.mem_cons.1 h with h | h
          · exact hm.2.1 h
          · exact hm.2.2 h
        · omega
      rw [if_pos hm, if_neg hm2]
      by_cases hk4 : kindP p x.elem = 4
      · rw [if_pos hk4, if_pos hk4, outs_gate hk4, inn_step (inn_pop s _ st ps lf _ 0 (by omega) hp hf), needsL_snoc _ _ _ _ hp.symm]
        rfl
      · rw [if_neg hk4, if_neg hk4]
        have inner : ∀ (ws : List Way) (o : List Road) (u q : Int), o.length + ws.length * 2 ^ k ≤ 100000 → innC n s a b o (st ++ [⟨x.elem, x.fin, u⟩]) (ps ++ [q]) (lf ++ [ws]) = innC n s a b (o ++ ws.flatMap (wayR p s k st (needsL st ps) x (a.elem :: st.map (·.elem)))) st ps lf := by
          intro ws
          induction ws with
          | nil =>
            intro o u q ho
            rw [inn_step (inn_pop s _ st ps lf _ q (by omega) hp hf)]
            simp
          | cons w ws ih =>
            intro o u q ho
            rw [List.length_cons, Nat.add_mul] at ho
            have hway := inn_way hn s o st ps lf ⟨x.elem, x.fin, u⟩ q w ws (by omega) hp hf (by omega)
            have h1 : 1 ≤ 2 ^ k := Nat.one_le_two_pow
            rw [List.flatMap_cons, ← List.append_assoc]
            simp only at hway
            by_cases hr : 0 ≤ readsP p ⟨x.elem, w.out⟩
            · rw [if_pos hr] at hway
              rw [inn_step hway, ih _ _ _ (by simp; omega)]
              unfold wayR
              rw [if_pos hr, needsL_snoc _ _ _ _ hp.symm]
            · rw [if_neg hr] at hway
              cases hnx : nextP p ⟨x.elem, w.out⟩ with
              | none =>
                rw [hnx] at hway
                rw [inn_step hway, ih _ _ _ (by simp; omega)]
                unfold wayR
                rw [if_neg hr, hnx, needsL_snoc _ _ _ _ hp.symm]
              | some y =>
                rw [hnx] at hway
                have hlen := onF_len p s k (st ++ [⟨x.elem, x.fin, w.out⟩]) (needsL (st ++ [⟨x.elem, x.fin, w.out⟩]) (ps ++ [w.pos])) y (a.elem :: (st ++ [(⟨x.elem, x.fin, w.out⟩ : Step)]).map (·.elem))
                rw [inn_go hway, outer hn s a b k y o _ _ _ (by simp; omega) (by simp [hp]) (by simp [hf]) (by omega), ih _ _ _ (by simp only [List.length_append]; omega)]
                unfold wayR
                rw [if_neg hr, hnx, needsL_snoc _ _ _ _ hp.symm]
                simp
        rw [inner _ _ _ _ (by have h3 := outsP_len p x.elem x.fin; have h4 : (outsP p x.elem x.fin).length * 2 ^ k ≤ 2 * 2 ^ k := Nat.mul_le_mul_right _ h3; omega)]
    · have hm2 : x.elem ∈ a.elem :: st.map (·.elem) ∨ st.length = 12 := by
        by_cases h1 : st.length = 12
        · exact .inr h1
        · left
          by_cases h2 : x.elem = a.elem
          · simp [h2]
          · by_cases h3 : x.elem ∈ st.map (·.elem)
            · exact List.mem_cons_of_mem _ h3
            · exact absurd ⟨by omega, h2, h3⟩ hm
      rw [if_neg hm, if_pos hm2]; simp

/-- The program's roads of a signal. -/
theorem road_Of_eq (hn : NetOf p n) (s : Int) : g_road_Of n s = some (ofF p s) := by
  unfold g_road_Of ofF
  rw [net_At_eq hn]
  cases idx p.signals s with
  | none => rfl
  | some a =>
    simp only [Option.bind_some, Bool.not_true, cond_false, net_Next hn]
    cases nextP p a.at_ with
    | none => rfl
    | some y =>
      simp only [Option.isSome_some, Option.getD_some, Bool.not_true, cond_false]
      rw [outer hn s a.at_ true 13 y [] [] [] [] rfl rfl rfl (by decide)]
      unfold innC
      rw [loopR_inr (inn_end s _)]
      rfl

end
end Go.E
/- Plain Lean: whether something is a road: the program's answer and the document's are one. No condition. -/
namespace Go.E
open Go

def wayF (l : List Way) (o : Int) : Option Way := l.find? fun w => w.out == o

/-- The needs of steps that follow from a port on, if they may follow. -/
def stepsF (p : Plan) (a : Int) : Option Port → List Step → List Need → List Step → Option (List Need)
  | _, _, nd, [] => some nd
  | none, _, _, _ :: _ => none
  | some x, pv, nd, s :: r => if s.elem ≠ x.elem ∨ s.in_ ≠ x.fin ∨ s.elem = a ∨ s.elem ∈ pv.map (·.elem) then none else if kindP p s.elem = 4 then (if r = [] ∧ s.out = -1 then some nd else none) else match wayF (outsP p s.elem s.in_) s.out with
    | none => none
    | some w => if r ≠ [] ∧ 0 ≤ readsP p ⟨s.elem, s.out⟩ then none else stepsF p a (nextP p ⟨s.elem, s.out⟩) (pv ++ [s]) (addN nd s.elem w.pos) r

def tailF (p : Plan) (fin to : Int) (l : Step) : Bool :=
  if kindP p l.elem = 4 then decide (fin = 2 ∧ to = -1) else if 0 ≤ readsP p ⟨l.elem, l.out⟩ then decide (fin = 1 ∧ to = readsP p ⟨l.elem, l.out⟩) else (nextP p ⟨l.elem, l.out⟩).isNone && decide (fin = 3 ∧ to = -1)

/-- Is it a road (but for its flank)? -/
def isF (p : Plan) (r : Road) : Bool := match idx p.signals r.frm with
  | none => false
  | some sg => if r.steps.length < 1 ∨ 12 < r.steps.length then false else match stepsF p sg.at_.elem (nextP p sg.at_) [] [] r.steps with
    | none => false
    | some nd => match r.steps.getLast? with
      | none => false
      | some l => tailF p r.fin r.to l && decide (r.needs = nd)

theorem stepsF_len {p : Plan} {a : Int} : ∀ {r : List Step} {x : Option Port} {pv : List Step} {nd nd' : List Need}, stepsF p a x pv nd r = some nd' → nd'.length ≤ nd.length + r.length
  | [], x, pv, nd, nd', h => by
    have : nd = nd' := by cases x <;> simpa [stepsF] using h
    subst this; simp
  | s :: r, none, pv, nd, nd', h => by simp [stepsF] at h
  | s :: r, some x, pv, nd, nd', h => by
    unfold stepsF at h
    split at h
    · cases h
    · split at h
      · split at h
        · cases h; simp
        · cases h
      · split at h
        · cases h
        · split at h
          · cases h
          · have h1 := stepsF_len h
            rename_i w _ _
            have h2 := addN_len nd s.elem w.pos
            simp only [List.length_cons]; omega

section
variable {p : Plan} {n : Net}

/-! ### the document's test -/
end
end Go.E
/- Plain Lean: whether something is a road, as the document says; the roads of a signal are roads, and none is told twice. No condition. -/
namespace Go.E
open Go

theorem outs_dist (p : Plan) (e i : Int) : (outsP p e i).Pairwise (fun a b => a.out ≠ b.out) := by
  unfold outsP
  repeat' split
  all_goals simp

theorem wayF_mem : ∀ {l : List Way} {w : Way}, l.Pairwise (fun a b => a.out ≠ b.out) → w ∈ l → wayF l w.out = some w
  | a :: l, w, hp, hm => by
    rw [List.pairwise_cons] at hp
    unfold wayF
    rw [List.find?_cons]
    rcases List.mem_cons.1 hm with rfl | hm
    · simp
    · have := hp.1 w hm
      have e : (a.out == w.out) = false := beq_eq_false_iff_ne.2 this
      simp only [e]
      exact wayF_mem hp.2 hm

section
variable {p : Plan} {n : Net}

/-! ### the roads of a signal are roads -/
/-- A road that goes on from steps. -/
structure OnR (p : Plan) (a s : Int) (x : Port) (st : List Step) (nd : List Need) (r : Road) (t : List Step) : Prop where
  frm : r.frm = s
  guards : r.guards = []
  zone : r.zone = []
  holds : r.holds = []
  bare : r.bare = false
  steps : r.steps = st ++ t
  ne : t ≠ []
  len : r.steps.length ≤ 12
  all : stepsF p a (some x) st nd t = some r.needs
  tail : ∀ l, t.getLast? = some l → tailF p r.fin r.to l = true

theorem onF_road (s a : Int) : ∀ (k : Nat) (st : List Step) (nd : List Need) (x : Port) (r : Road), st.length + k = 13 → r ∈ onF p s k st nd x (a :: st.map (·.elem)) → ∃ t, OnR p a s x st nd r t ∧ ∃ u t', t = u :: t' ∧ u.elem = x.elem ∧ u.in_ = x.fin
  | 0, st, nd, x, r, hk, hr => by simp [onF] at hr
  | k + 1, st, nd, x, r, hk, hr => by
    rw [onF_succ] at hr
    by_cases hm : x.elem ∈ a :: st.map (·.elem) ∨ st.length = 12
    · rw [if_pos hm] at hr; simp at hr
    · rw [if_neg hm] at hr
      have hm1 : x.elem ∉ a :: st.map (·.elem) := fun h => hm (.inl h)
      have hm2 : ¬ (x.elem ≠ x.elem ∨ x.fin ≠ x.fin ∨ x.elem = a ∨ x.elem ∈ st.map (·.elem)) := by
        rintro (h1 | h1 | h1 | h1)
        · exact h1 rfl
        · exact h1 rfl
        · exact hm1 (by rw [h1]; simp)
        · exact hm1 (List.mem_cons_of_mem _ h1)
      have hlen : st.length < 12 := by
        have : st.length ≠ 12 := fun h => hm (.inr h)
        omega
      by_cases k4 : kindP p x.elem = 4
      · rw [if_pos k4] at hr
        simp at hr
        subst hr
        refine ⟨[⟨x.elem, x.fin, -1⟩], ⟨rfl, rfl, rfl, rfl, rfl, rfl, by simp, by simp [mkR]; omega, ?_, ?_⟩, _, _, rfl, rfl, rfl⟩
        · simp only [stepsF, if_neg hm2, if_pos k4, mkR, true_and, if_true]
        · intro l hl
          simp at hl
          subst hl
          simp [tailF, k4, mkR]
      · rw [if_neg k4] at hr
        obtain ⟨w, hw, hr⟩ := List.mem_flatMap.1 hr
        have hway := wayF_mem (outs_dist p x.elem x.fin) hw
        unfold wayR at hr
        by_cases hrd : 0 ≤ readsP p ⟨x.elem, w.out⟩
        · rw [if_pos hrd] at hr
          simp at hr
          subst hr
          refine ⟨[⟨x.elem, x.fin, w.out⟩], ⟨rfl, rfl, rfl, rfl, rfl, rfl, by simp, by simp [mkR]; omega, ?_, ?_⟩, _, _, rfl, rfl, rfl⟩
          · unfold stepsF; rw [if_neg hm2, if_neg k4, hway]; simp [stepsF, mkR]
          · intro l hl
            simp at hl
            subst hl
            simp [tailF, k4, mkR, hrd]
        · rw [if_neg hrd] at hr
          cases hnx : nextP p ⟨x.elem, w.out⟩ with
          | none =>
            rw [hnx] at hr
            simp at hr
            subst hr
            refine ⟨[⟨x.elem, x.fin, w.out⟩], ⟨rfl, rfl, rfl, rfl, rfl, rfl, by simp, by simp [mkR]; omega, ?_, ?_⟩, _, _, rfl, rfl, rfl⟩
            · unfold stepsF; rw [if_neg hm2, if_neg k4, hway]; simp [stepsF, mkR]
            · intro l hl
              simp at hl
              subst hl
              simp [tailF, k4, mkR, hrd, hnx]
          | some y =>
            rw [hnx] at hr
            have hmm : a :: st.map (·.elem) ++ [x.elem] = a :: (st ++ [(⟨x.elem, x.fin, w.out⟩ : Step)]).map (·.elem) := by simp
            simp only at hr
            rw [hmm] at hr
            obtain ⟨t, ht, u, t', htu, -, -⟩ := onF_road s a k (st ++ [⟨x.elem, x.fin, w.out⟩]) (addN nd x.elem w.pos) y r (by simp; omega) hr
            refine ⟨⟨x.elem, x.fin, w.out⟩ :: t, ⟨ht.frm, ht.guards, ht.zone, ht.holds, ht.bare, by rw [ht.steps]; simp, by simp, ht.len, ?_, ?_⟩, _, _, rfl, rfl, rfl⟩
            · unfold stepsF
              rw [if_neg hm2, if_neg k4, hway]
              dsimp only
              rw [if_neg (fun h => hrd h.2), hnx]
              exact ht.all
            · intro l hl
              refine ht.tail l ?_
              rw [htu] at hl ⊢
              rwa [List.getLast?_cons_cons] at hl

theorem ofF_road {s : Int} {r : Road} (h : r ∈ ofF p s) : isF p r = true ∧ r.frm = s ∧ r.guards = [] ∧ r.zone = [] ∧ r.holds = [] ∧ r.bare = false ∧ r.steps.length ≤ 12 ∧ 1 ≤ r.steps.length ∧ r.needs.length ≤ 12 := by
  unfold ofF at h
  cases hi : idx p.signals s with
  | none => rw [hi] at h; simp at h
  | some sg =>
    rw [hi] at h
    simp only at h
    cases hx : nextP p sg.at_ with
    | none => rw [hx] at h; simp at h
    | some y =>
      rw [hx] at h
      simp only at h
      obtain ⟨t, ht, -⟩ := onF_road s sg.at_.elem 13 [] [] y r rfl (by simpa using h)
      have hst : r.steps = t := by rw [ht.steps]; rfl
      have hlen : 1 ≤ r.steps.length := by
        rw [hst]
        exact List.length_pos_iff.2 ht.ne
      have hl2 := ht.len
      have hnl := stepsF_len ht.all
      rw [← hst] at hnl
      simp only [List.length_nil] at hnl
      refine ⟨?_, ht.frm, ht.guards, ht.zone, ht.holds, ht.bare, ht.len, hlen, by omega⟩
      unfold isF
      rw [ht.frm, hi]
      simp only
      rw [if_neg (by omega), hx, hst, ht.all]
      obtain ⟨l, hl⟩ : ∃ l, t.getLast? = some l := by
        rw [List.getLast?_eq_getElem?]
        rw [hst] at hlen
        exact ⟨_, List.getElem?_eq_getElem (by omega)⟩
      simp only [hl, ht.tail l hl, decide_true, Bool.and_true]

theorem LightR_of {r : Road} (h1 : r.steps.length ≤ 12) (h2 : r.needs.length ≤ 12) (h3 : r.guards = []) (h4 : r.zone = []) (h5 : r.holds = []) : LightR r := ⟨by omega, by omega, by simp [h3], by simp [h4], by simp [h5]⟩

theorem ofF_light {s : Int} {r : Road} (h : r ∈ ofF p s) : LightR r := by
  obtain ⟨_, _, h3, h4, h5, _, h6, _, h7⟩ := ofF_road h
  exact LightR_of h6 h7 h3 h4 h5

/-! ### none is told twice -/
end
end Go.E
/- Plain Lean: RoadOfs, RoadAlls, RoadIsOne, RoadTurned and RoadEach answer true, for every argument. No condition. -/
namespace Go.E
open Go

theorem SameRoads_refl (l : List Road) (hl : l.length < 1000000) (h : ∀ r ∈ l, LightR r) : g_R12_SameRoads l l = some true := by
  unfold g_R12_SameRoads
  simp only [bne_self_eq_false, cond_false]
  obtain ⟨b, hb, rfl⟩ := loop_ix (l := l) (step := g_R12_SameRoads_l1 l l) (Post := fun b => b = true) (fun _ _ => True) (fun _ => ⟨true, by simp only [g_R12_SameRoads_l1, dge, cond_false], rfl⟩)
    (fun i a ha _ => .inr ⟨by have := ilt ha; simp only [g_R12_SameRoads_l1, dlt ha, cond_true, idx_nat, ha, Option.bind_some, Same2_eq (h a (List.mem_of_getElem? ha)), decide_true, Bool.not_true, cond_false, wi64_succ (show i < 1000000000 by omega)], trivial⟩)
  exact hb

section
variable {p : Plan} {n : Net}

theorem ofF_len (s : Int) : (ofF p s).length ≤ 2 ^ 13 := by
  unfold ofF
  split
  · simp
  · split
    · simp
    · exact onF_len p s 13 _ _ _ _

/-- All roads up to a signal. -/
def preF (p : Plan) (i : Nat) : List Road := (List.range i).flatMap fun (s : Nat) => ofF p (s : Int)

def roadsF (p : Plan) : List Road := preF p p.signals.length

theorem preF_succ (i : Nat) : preF p (i + 1) = preF p i ++ ofF p (i : Int) := by
  unfold preF
  rw [List.range_succ, List.flatMap_append]; simp

theorem preF_len : ∀ i : Nat, (preF p i).length ≤ i * 2 ^ 13
  | 0 => by simp [preF]
  | i + 1 => by
    rw [preF_succ, List.length_append]
    have := preF_len i
    have := ofF_len (p := p) (i : Int)
    omega

theorem preF_mem {i : Nat} {r : Road} (h : r ∈ preF p i) : ∃ s : Int, r ∈ ofF p s := by
  obtain ⟨s, _, hs⟩ := List.mem_flatMap.1 h
  exact ⟨_, hs⟩

theorem preF_mono {i : Nat} : ∀ {j : Nat}, i ≤ j → (preF p i).length ≤ (preF p j).length
  | 0, h => by have : i = 0 := by omega
               subst this; exact Nat.le_refl _
  | j + 1, h => by
    by_cases e : i = j + 1
    · subst e; exact Nat.le_refl _
    · have := preF_mono (i := i) (j := j) (by omega)
      rw [preF_succ, List.length_append]; omega

def allR (p : Plan) : List Road × Int := if 64 < (roadsF p).length then ([], 3) else (roadsF p, 0)

theorem road_All_eq (hn : NetOf p n) (hs : p.signals.length ≤ 24) : g_road_All n = some (allR p) := by
  unfold g_road_All
  have e : g_net_Net_Signals n = some (p.signals.length : Int) := by unfold g_net_Net_Signals; rw [hn.plan]
  rw [e]
  simp only [Option.bind_some]
  obtain ⟨b, h1, h2⟩ := loop_st (l := p.signals) (step := g_road_All_l1 n (p.signals.length : Int)) (Post := fun b => b = allR p) (fun i o => o = preF p i) (c := [])
    (fun o ho => by
      refine ⟨allR p, ?_, rfl⟩
      unfold allR roadsF
      rw [← ho]
      by_cases c : 64 < o.length
      · have d : decide (64 < (o.length : Int)) = true := by simp; omega
        simp [g_road_All_l1, d, c]
      · have d : decide (64 < (o.length : Int)) = false := by simp; omega
        simp [g_road_All_l1, d, c])
    (fun i a o ha ho => by
      have hi := ilt ha
      have h1 := preF_len (p := p) i
      have h2 := ofF_len (p := p) (i : Int)
      rw [← ho] at h1
      refine .inr ⟨o ++ ofF p (i : Int), ?_, by rw [preF_succ, ho]⟩
      simp only [g_road_All_l1, dlt ha, cond_true, road_Of_eq hn, Option.bind_some]
      rw [appI_ok (by omega)]
      simp only [Option.bind_some, wi64_succ (show i < 1000000000 by omega)])
    rfl
  rw [h1, h2]

theorem R12_All_eq (hv : Valid p) : g_R12_All p = some (allR p) := by
  have hs := hv.ns
  unfold g_R12_All
  obtain ⟨b, h1, h2⟩ := loop_st (l := p.signals) (step := g_R12_All_l1 p) (Post := fun b => b = allR p) (fun i o => o = preF p i ∧ o.length ≤ 64) (c := [])
    (fun o ho => by
      refine ⟨allR p, ?_, rfl⟩
      unfold allR roadsF
      rw [← ho.1, if_neg (by omega)]
      simp [g_R12_All_l1])
    (fun i a o ha ho => by
      have hi := ilt ha
      have h2 := ofF_len (p := p) (i : Int)
      have hb : o.length + (ofF p (i : Int)).length ≤ 4294967296 := by have := ho.2; omega
      have hlen : (o ++ ofF p (i : Int)) = preF p (i + 1) := by rw [preF_succ, ho.1]
      by_cases c : 64 < (o ++ ofF p (i : Int)).length
      · refine .inl ⟨([], 3), ?_, ?_⟩
        · have d : decide (64 < ((o ++ ofF p (i : Int)).length : Int)) = true := by simp only [decide_eq_true_eq]; omega
          simp only [g_R12_All_l1, dlt ha, cond_true, Of_eq hv.few, Option.bind_some, appI_ok hb, d]
        · unfold allR roadsF
          have := preF_mono (p := p) (show i + 1 ≤ p.signals.length by omega)
          rw [hlen] at c
          rw [if_pos (by omega)]
      · refine .inr ⟨o ++ ofF p (i : Int), ?_, hlen, by omega⟩
        have d : decide (64 < ((o ++ ofF p (i : Int)).length : Int)) = false := by simp only [decide_eq_false_iff_not]; omega
        simp only [g_R12_All_l1, dlt ha, cond_true, Of_eq hv.few, Option.bind_some, appI_ok hb, d, cond_false, wi64_succ (show i < 1000000000 by omega)])
    ⟨by simp [preF], by simp⟩
  rw [h1, h2]

theorem allR_mem {r : Road} (h : r ∈ (allR p).1) : ∃ s : Int, r ∈ ofF p s := by
  unfold allR at h
  split at h
  · simp at h
  · exact preF_mem h

end

theorem RoadAlls_true (p : Plan) : g_L7_RoadAlls p = some true := by
  unfold g_L7_RoadAlls
  simp only [known7, Option.bind_some, Bool.not_true, cond_false]
  obtain ⟨b, h1, h2⟩ := fine_total p
  simp only [h1, Option.bind_some]
  cases b with
  | false => rfl
  | true =>
    have hv := h2 rfl
    obtain ⟨o, h3, h4⟩ := made_total p
    obtain ⟨n, rfl, hn⟩ := h4 h1
    have hl : (allR p).1.length < 1000000 := by
      unfold allR
      split
      · simp
      · rename_i c; simp only; omega
    simp only [Bool.not_true, cond_false, h3, Option.bind_some, optM, road_All_eq hn hv.ns, R12_All_eq hv, beq_self_eq_true, cond_true, SameRoads_refl (allR p).1 hl (fun r hr => by obtain ⟨s, hs⟩ := allR_mem hr; exact ofF_light hs)]

end Go.E
