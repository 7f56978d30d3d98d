/- Plain Lean: what the sides of a road reach: the document's answer and the program's are one (law SideReaches). No condition. -/
import Derived.Test.YtoofmfiallkmbaaGreatJ5
set_option linter.unusedVariables false
set_option linter.unusedSimpArgs false
namespace Go.E
open Go

theorem hasPort_eq (l : List Port) (hl : l.length < 1000000) (x : Port) : g_R12_hasPort l x = some (decide (x ∈ l)) := by
  unfold g_R12_hasPort
  obtain ⟨b, h1, h2⟩ := loop_ix (l := l) (step := g_R12_hasPort_l1 l x) (Post := fun b => b = decide (x ∈ l)) (fun _ y => y ≠ x) (fun good => ⟨false, by simp [g_R12_hasPort_l1], by
      symm; rw [decide_eq_false_iff_not]; intro hm
      obtain ⟨i, hi⟩ := List.getElem?_of_mem hm
      exact good i x hi rfl⟩) (fun i a ha _ => by
      have := ilt ha
      by_cases e : a = x
      · exact .inl ⟨true, by simp only [g_R12_hasPort_l1, dlt ha, cond_true, idx_nat, ha, Option.bind_some, e, beq_self_eq_true], by symm; rw [decide_eq_true_iff]; subst e; exact List.mem_of_getElem? ha⟩
      · have : (a == x) = false := beq_eq_false_iff_ne.2 e
        exact .inr ⟨by simp only [g_R12_hasPort_l1, dlt ha, cond_true, idx_nat, ha, Option.bind_some, this, cond_false, wi64_succ (show i < 1000000000 by omega)], e⟩)
  rw [h1, h2]

section
variable {p : Plan} {n : Net} {pos : List Int} {shut : List Bool} {r : Road}

theorem R6_Through_eq (p : Plan) (e i x : Int) : g_R6_Through p e i x = some ((throughP p e i x).getD 0, (throughP p e i x).isSome) := by
  unfold g_R6_Through throughP
  rw [R6_Outs_eq]
  simp only [Option.bind_some]
  have hl := outsP_len p e i
  refine loop_list (γ := Unit) (outsP p e i) (fun k _ => (k : Int)) (fun _ _ r => some ((throughL r x).getD 0, (throughL r x).isSome)) (fun _ => ?_) (fun k _ a r ha hi => ?_) ()
  · simp [g_R6_Through_l1, throughL]
  · simp only [g_R6_Through_l1, idx_nat, ha, Option.bind_some, dlt ha, cond_true, throughL, cbeq]
    by_cases h1 : a.pos = 0
    · left; simp [h1]
    · by_cases h2 : a.pos = x
      · left
        simp [h1, h2]
      · right
        have : (a.pos == x) = false := beq_eq_false_iff_ne.2 h2
        exact ⟨(), by simp [h1, this, wi64_succ (show k < 1000000000 by omega)], by simp [h1, h2]⟩

theorem through_range {e f x o : Int} (h : throughP p e f x = some o) : 0 ≤ o ∧ o < endsF (kindP p e) := by
  obtain ⟨w, hw, rfl, _⟩ := through_some h
  have := outs_fact hw
  exact ⟨this.1, this.2.1⟩

theorem R6_From_eq (p : Plan) (e f x : Int) : g_R6_From p e f x = some ((throughP p e f x).getD 0, (throughP p e f x).isSome) := by
  unfold g_R6_From
  have he := ends_le (kindP p e)
  obtain ⟨b, h1, rfl⟩ := loop_up (step := g_R6_From_l1 p e f x) (Post := fun b => b = ((throughP p e f x).getD 0, (throughP p e f x).isSome)) (fun k i => i = (k : Int) ∧ (k : Int) ≤ endsF (kindP p e) ∧ ∀ o, throughP p e f x = some o → (k : Int) ≤ o) 5 (s := (0 : Int)) (by
    rintro k i ⟨rfl, h2, h3⟩
    simp only [g_R6_From_l1, g_R6_kind_eq, g_R6_Ends_eq, Option.bind_some]
    by_cases d : (k : Int) < endsF (kindP p e)
    · rw [decide_eq_true d]
      simp only [cond_true, R6_Through_eq, Option.bind_some]
      by_cases c : throughP p e (k : Int) x = some f
      · left
        refine ⟨_, ?_, rfl⟩
        rw [c, through_back c]
        simp
      · right
        refine ⟨by omega, ((k + 1 : Nat) : Int), ?_, rfl, by omega, fun o ho => ?_⟩
        · have w := wi64_succ (show k < 1000000000 by omega)
          cases ht : throughP p e (k : Int) x with
          | none => simp only [Option.isSome_none, cond_false, Option.bind_some, w]
          | some v =>
            have hne : (v == f) = false := beq_eq_false_iff_ne.2 (fun hv => c (by rw [ht, hv]))
            simp only [Option.isSome_some, Option.getD_some, cond_true, Option.bind_some, hne, cond_false, w]
        · have := h3 o ho
          have hne : (k : Int) ≠ o := fun hk => c (by rw [hk]; exact through_back ho)
          omega
    · left
      refine ⟨_, ?_, rfl⟩
      rw [decide_eq_false d]
      cases ht : throughP p e f x with
      | none => rfl
      | some o =>
        have := h3 o ht
        have := through_range ht
        omega) ⟨rfl, by omega, fun o ho => (through_range ho).1⟩
  exact h1

theorem through_lies (e f : Int) : throughP p e f (liesF pos e) = throughP p e f (lieW pos e) := by
  unfold throughP
  have key : ∀ l : List Way, (∀ w ∈ l, w.pos ≠ 0 → w.pos = 1 ∨ w.pos = 2) → throughL l (liesF pos e) = throughL l (lieW pos e) := by
    intro l
    induction l with
    | nil => intro _; rfl
    | cons w l ih =>
      intro h
      unfold throughL
      rw [ih (fun v hv => h v (by simp [hv]))]
      by_cases c : w.pos = 0
      · simp [c]
      · have h2 := h w (by simp) c
        have := lieW_liesF (pos := pos) (e := e) h2
        have : w.pos = liesF pos e ↔ w.pos = lieW pos e := ⟨fun h => (this.1 h.symm).symm, fun h => (this.2 h.symm).symm⟩
        simp only [c, false_or, this]
  exact key _ fun w hw hp => ((outs_fact hw).2.2.2.2.2 hp).2

theorem ways_eq (p : Plan) (x : Port) (pos : List Int) : g_R12_ways p x pos = some (match throughP p x.elem x.fin (lieW pos x.elem) with | none => [] | some o => [o]) := by
  unfold g_R12_ways
  simp only [R6_Lies_eq, R6_From_eq, Option.bind_some, through_lies]
  cases throughP p x.elem x.fin (lieW pos x.elem) <;> rfl

theorem Reach2_l3 (hv : Valid p) (x : Port) (met : List Port) (zone : List Int) (q : List Port) (hz : zone.length < 1000000) (hq : q.length ≤ 1000000) (o : Option Int) :
    loopR (g_R12_Reach_l3 p x met (match o with | none => [] | some o => [o])) (zone, 0, q) = some (.inl (match o with
      | none => (zone, met, q)
      | some o => (riseF x.elem zone, met, match nextP p ⟨x.elem, o⟩ with | some y => q ++ [y] | none => q))) := by
  have hj := hv.nj
  cases o with
  | none => exact loopR_inr (by simp [g_R12_Reach_l3])
  | some o =>
    have d1 : decide ((0 : Int) < (([o] : List Int).length : Int)) = true := by simp
    have d2 : decide ((1 : Int) < (([o] : List Int).length : Int)) = false := by simp
    have e0 : idx [o] 0 = some o := rfl
    have w : wi64 (0 + 1) = 1 := by decide
    dsimp only
    cases hy : nextP p ⟨x.elem, o⟩ with
    | none =>
      rw [loopR_inl (s' := ((riseF x.elem zone, 1, q) : List Int × Int × List Port)) (by
        simp only [g_R12_Reach_l3, d1, cond_true, rising_eq zone hz, e0, Option.bind_some, g_R6_Next_eq p (by omega), hy, Option.isSome_none, cond_false, w])]
      exact loopR_inr (by simp only [g_R12_Reach_l3, d2, cond_false])
    | some y =>
      rw [loopR_inl (s' := ((riseF x.elem zone, 1, q ++ [y]) : List Int × Int × List Port)) (by
        simp only [g_R12_Reach_l3, d1, cond_true, rising_eq zone hz, e0, Option.bind_some, g_R6_Next_eq p (by omega), hy, Option.isSome_some, Option.getD_some, appI_ok (show q.length + [y].length ≤ 4294967296 by simp; omega), w])]
      exact loopR_inr (by simp only [g_R12_Reach_l3, d2, cond_false])

/-- One round of the document's. -/
theorem Reach2_step (hv : Valid p) (hl : r.steps.length ≤ 1000) (x : Port) (q : List Port) (met : List Port) (zone : List Int) (hq : q.length ≤ 1000000) (hm : met.length < 1000000) (hz : zone.length < 1000000) :
    g_R12_Reach_l2 p pos shut r (zone, met, x :: q) = some (.inl (if x ∈ met ∨ x.elem ∈ r.steps.map (·.elem) ∨ shutP p shut x = true then (zone, met, q) else if kindP p x.elem = 4 then (riseF x.elem zone, met ++ [x], q)
      else match throughP p x.elem x.fin (lieW pos x.elem) with
        | none => (zone, met ++ [x], q)
        | some o => (riseF x.elem zone, met ++ [x], match nextP p ⟨x.elem, o⟩ with | some y => q ++ [y] | none => q))) := by
  have hns := hv.ns
  have d : decide ((0 : Int) < (((x :: q).length : Nat) : Int)) = true := by simp
  have e0 : idx (x :: q) 0 = some x := rfl
  have eb : (bif decide (x ∈ met) then some true else (g_R12_Own r x.elem).bind fun y850 => bif y850 then some true else bif decide (0 ≤ readsP p x) then bif decide (readsP p x < (shut.length : Int)) then (idx shut (readsP p x)).bind fun y856 => some y856 else some false else some false : Option Bool) = some (decide (x ∈ met ∨ x.elem ∈ r.steps.map (·.elem) ∨ shutP p shut x = true)) := by
    rw [Own2_eq r (by omega)]
    have es : (bif decide (0 ≤ readsP p x) then bif decide (readsP p x < (shut.length : Int)) then (idx shut (readsP p x)).bind fun y856 => some y856 else some false else some false : Option Bool) = some (shutP p shut x) := by
      unfold shutP
      by_cases c : 0 ≤ readsP p x
      · by_cases c2 : readsP p x < (shut.length : Int)
        · obtain ⟨a, ha⟩ := idx_of (l := shut) (n := readsP p x) c c2
          simp [c, c2, ha]
        · simp [c, c2, idx_none (l := shut) (.inr (by omega : (shut.length : Int) ≤ readsP p x))]
      · simp [c]
    by_cases cm : x ∈ met
    · simp [cm]
    · rw [decide_eq_false cm]
      simp only [cond_false, Option.bind_some, cm, false_or]
      by_cases c : x.elem ∈ r.steps.map (·.elem)
      · rw [decide_eq_true c]; simp only [cond_true, c, true_or, decide_true]
      · rw [decide_eq_false c]; simp only [cond_false, es, c, false_or]
        cases shutP p shut x <;> rfl
  unfold g_R12_Reach_l2
  simp only [d, cond_true, e0, slO_tail, Option.bind_some, g_R6_Reads_eq p (by omega), hasPort_eq met hm, eb]
  by_cases c : x ∈ met ∨ x.elem ∈ r.steps.map (·.elem) ∨ shutP p shut x = true
  · rw [if_pos c, decide_eq_true c]; simp only [cond_true]
  · rw [if_neg c, decide_eq_false c]
    simp only [cond_false, g_R6_Kind_eq, Option.bind_some, appI_ok (show met.length + [x].length ≤ 4294967296 by simp; omega)]
    by_cases k4 : kindP p x.elem = 4
    · rw [if_pos k4, k4]
      simp only [beq_self_eq_true, cond_true, rising_eq zone hz, Option.bind_some]
    · rw [if_neg k4]
      have b4 : (kindP p x.elem == 4) = false := beq_eq_false_iff_ne.2 k4
      simp only [b4, cond_false, ways_eq, Option.bind_some, Reach2_l3 hv x (met ++ [x]) zone q hz hq]

/-- The document's search beside the program's. -/
structure Side (p : Plan) (shut : List Bool) (st : List Step) (k : Nat) (vis : List (Port × Bool)) (zone : List (Int × Bool)) (met : List Port) (zl : List Int) : Prop where
  rise : zl.Pairwise (· < ·)
  mem : ∀ e, e ∈ zl ↔ (assoc zone e).isSome = true
  seen : ∀ x, x.elem ∉ st.map (·.elem) → shutP p shut x = false → kindP p x.elem ≠ 4 → (x ∈ met ↔ seenB vis x = true)
  gate : ∀ x ∈ met, kindP p x.elem = 4 → (assoc zone x.elem).isSome = true
  gate2 : ∀ x, kindP p x.elem = 4 → x.elem ∉ st.map (·.elem) → shutP p shut x = false → seenB vis x = false
  own : ∀ x ∈ met, x.elem ∉ st.map (·.elem) ∧ shutP p shut x = false
  lz : zl.length ≤ k
  lm : met.length ≤ k

theorem Reach2_round (hv : Valid p) (hn : NetOf p n) (hl : r.steps.length ≤ 1000) {M k : Nat} (hM : M ≤ 1000000) {x : Port} {q : List Port} {vis : List (Port × Bool)} {zone : List (Int × Bool)} {met : List Port} {zl : List Int} (h : RI p pos shut r.steps M k (x :: q) vis zone) (hs : Side p shut r.steps k vis zone met zl) (hk : k < 900000) :
    ∃ zl' met' q' vis' zone', g_R12_Reach_l2 p pos shut r (zl, met, x :: q) = some (.inl (zl', met', q')) ∧ RI p pos shut r.steps M (k + 1) q' vis' zone' ∧ Side p shut r.steps (k + 1) vis' zone' met' zl' := by
  have hx : Arr p pos shut r.steps x := h.arr x (by simp)
  obtain ⟨w, hw⟩ := hx.from
  have hr := has_range (hv.join.next hw)
  have hm := h.meas
  simp only [List.length_cons] at hm
  have h1 := hs.lz; have h2 := hs.lm
  obtain ⟨s', e1, h3⟩ := Reach_round hv hn hl hM h
  have e2 := Reach_step (pos := pos) (shut := shut) hn hl x q vis zone hr.1 (by omega)
  rw [e1] at e2
  have e3 : s' = _ := Sum.inl.inj (Option.some.inj e2)
  have e4 := Reach2_step (pos := pos) (shut := shut) hv hl x q met zl (by omega) (by omega) (by omega)
  have keepm : ∀ {zone' : List (Int × Bool)}, (∀ e, (assoc zone e).isSome = true → (assoc zone' e).isSome = true) → ∀ y ∈ met, kindP p y.elem = 4 → (assoc zone' y.elem).isSome = true := fun hz y hy h4 => hz _ (hs.gate y hy h4)
  by_cases c0 : x.elem ∈ r.steps.map (·.elem) ∨ shutP p shut x = true
  · -- blocked in both
    rw [if_pos (.inr c0)] at e3 e4
    subst e3
    refine ⟨_, _, _, _, _, e4, h3, hs.rise, hs.mem, fun y a1 a2 a3 => ?_, hs.gate, fun y a1 a2 a3 => ?_, hs.own, by omega, by omega⟩
    · have hne : y ≠ x := by
        rintro rfl
        rcases c0 with c | c
        · exact a1 c
        · rw [a2] at c; cases c
      rw [hs.seen y a1 a2 a3, seenB_aput]
      simp [hne]
    · have hne : y ≠ x := by
        rintro rfl
        rcases c0 with c | c
        · exact a2 c
        · rw [a3] at c; cases c
      cases hb : seenB (aput x true vis) y with
      | false => rfl
      | true =>
        rcases (seenB_aput _ _ _).1 hb with hb | hb
        · exact absurd hb hne
        · rw [hs.gate2 y a1 a2 a3] at hb; cases hb
  · have c1 : x.elem ∉ r.steps.map (·.elem) := fun h => c0 (.inl h)
    have c2 : shutP p shut x = false := by cases hh : shutP p shut x with | false => rfl | true => exact absurd (.inr hh) c0
    by_cases k4 : kindP p x.elem = 4
    · have hns := hs.gate2 x k4 c1 c2
      rw [if_neg (by rintro (h | h); · rw [hns] at h; cases h
                     · exact c0 h), if_pos k4] at e3
      subst e3
      by_cases cm : x ∈ met
      · rw [if_pos (.inl cm)] at e4
        have hg := hs.gate x cm k4
        refine ⟨_, _, _, _, _, e4, h3, hs.rise, fun e => ?_, hs.seen, keepm (fun e he => (aput_isSome _ _ _ _).2 (.inr he)), hs.gate2, hs.own, by omega, by omega⟩
        rw [hs.mem, aput_isSome]
        exact ⟨.inr, fun h => h.elim (fun h => by rw [h]; exact hg) id⟩
      · rw [if_neg (by rintro (h | h); · exact cm h
                       · exact c0 h), if_pos k4] at e4
        refine ⟨_, _, _, _, _, e4, h3, riseF_rise _ _ hs.rise, fun e => ?_, fun y a1 a2 a3 => ?_, fun y hy h4 => ?_, hs.gate2, fun y hy => ?_, by have := riseF_len x.elem zl; omega, by simp; omega⟩
        · rw [riseF_mem, hs.mem, aput_isSome]
        · have hne : y ≠ x := by rintro rfl; exact a3 k4
          rw [List.mem_append, hs.seen y a1 a2 a3]
          simp [hne]
        · rcases List.mem_append.1 hy with hy | hy
          · exact (aput_isSome _ _ _ _).2 (.inr (hs.gate y hy h4))
          · simp at hy; subst hy; exact (aput_isSome _ _ _ _).2 (.inl rfl)
        · rcases List.mem_append.1 hy with hy | hy
          · exact hs.own y hy
          · simp at hy; subst hy; exact ⟨c1, c2⟩
    · have hsm := hs.seen x c1 c2 k4
      by_cases cm : x ∈ met
      · rw [if_pos (.inl cm)] at e4
        rw [if_pos (.inl (hsm.1 cm))] at e3
        subst e3
        refine ⟨_, _, _, _, _, e4, h3, hs.rise, hs.mem, fun y a1 a2 a3 => ?_, hs.gate, fun y a1 a2 a3 => ?_, hs.own, by omega, by omega⟩
        · rw [hs.seen y a1 a2 a3, seenB_aput]
          exact ⟨.inr, fun h => h.elim (fun h => by rw [h]; exact hsm.1 cm) id⟩
        · have hne : y ≠ x := by rintro rfl; exact k4 a1
          cases hb : seenB (aput x true vis) y with
          | false => rfl
          | true =>
            rcases (seenB_aput _ _ _).1 hb with hb | hb
            · exact absurd hb hne
            · rw [hs.gate2 y a1 a2 a3] at hb; cases hb
      · have hns : ¬ seenB vis x = true := fun h => cm (hsm.2 h)
        rw [if_neg (by rintro (h | h); · exact cm h
                       · exact c0 h), if_neg k4] at e4
        rw [if_neg (by rintro (h | h); · exact hns h
                       · exact c0 h), if_neg k4] at e3
        have seen' : ∀ y, y.elem ∉ r.steps.map (·.elem) → shutP p shut y = false → kindP p y.elem ≠ 4 → (y ∈ met ++ [x] ↔ seenB (aput x true vis) y = true) := fun y a1 a2 a3 => by
          rw [List.mem_append, hs.seen y a1 a2 a3, seenB_aput]
          simp only [List.mem_singleton]
          exact Or.comm
        have gate2' : ∀ y, kindP p y.elem = 4 → y.elem ∉ r.steps.map (·.elem) → shutP p shut y = false → seenB (aput x true vis) y = false := fun y a1 a2 a3 => by
          have hne : y ≠ x := by rintro rfl; exact k4 a1
          cases hb : seenB (aput x true vis) y with
          | false => rfl
          | true =>
            rcases (seenB_aput _ _ _).1 hb with hb | hb
            · exact absurd hb hne
            · rw [hs.gate2 y a1 a2 a3] at hb; cases hb
        have own' : ∀ y ∈ met ++ [x], y.elem ∉ r.steps.map (·.elem) ∧ shutP p shut y = false := fun y hy => by
          rcases List.mem_append.1 hy with hy | hy
          · exact hs.own y hy
          · simp at hy; subst hy; exact ⟨c1, c2⟩
        cases ht : throughP p x.elem x.fin (lieW pos x.elem) with
        | none =>
          rw [ht] at e3 e4
          dsimp only at e3 e4
          subst e3
          refine ⟨_, _, _, _, _, e4, h3, hs.rise, hs.mem, seen', fun y hy h4 => ?_, gate2', own', by omega, by simp; omega⟩
          rcases List.mem_append.1 hy with hy | hy
          · exact hs.gate y hy h4
          · simp at hy; subst hy; exact absurd h4 k4
        | some o =>
          rw [ht] at e3 e4
          dsimp only at e3 e4
          have side' : Side p shut r.steps (k + 1) (aput x true vis) (aput x.elem true zone) (met ++ [x]) (riseF x.elem zl) := by
            refine ⟨riseF_rise _ _ hs.rise, fun e => ?_, seen', fun y hy h4 => ?_, gate2', own', by have := riseF_len x.elem zl; omega, by simp; omega⟩
            · rw [riseF_mem, hs.mem, aput_isSome]
            · rcases List.mem_append.1 hy with hy | hy
              · exact (aput_isSome _ _ _ _).2 (.inr (hs.gate y hy h4))
              · simp at hy; subst hy; exact absurd h4 k4
          cases hy : nextP p ⟨x.elem, o⟩ with
          | none =>
            rw [hy] at e3 e4
            subst e3
            exact ⟨_, _, _, _, _, e4, h3, side'⟩
          | some y =>
            rw [hy] at e3 e4
            subst e3
            exact ⟨_, _, _, _, _, e4, h3, side'⟩

theorem Reach2_spec (hv : Valid p) (hn : NetOf p n) (hl : r.steps.length ≤ 12) (pos : List Int) (shut : List Bool) : ∃ l, g_R12_Reach p pos shut r = some l ∧ l.Pairwise (· < ·) ∧ (∀ e, e ∈ l ↔ ZoneR p pos shut r.steps e) ∧ l.length ≤ 400 := by
  have hj := hv.nj
  unfold g_R12_Reach
  simp only [Ports2_eq hv r (by omega), Option.bind_some]
  have hp := portsF_len (p := p) r.steps
  obtain ⟨b, h1, h2⟩ := loop_st (l := portsF p r.steps) (step := g_R12_Reach_l1 p pos shut r (portsF p r.steps)) (Post := fun l => l.Pairwise (· < ·) ∧ (∀ e, e ∈ l ↔ ZoneR p pos shut r.steps e) ∧ l.length ≤ 400) (fun i q => q = startQ p ((portsF p r.steps).take i)) (c := [])
    (fun q hq => by
      rw [List.take_length] at hq
      subst hq
      obtain ⟨l, h3, h4⟩ := loop_up (step := g_R12_Reach_l2 p pos shut r) (Post := fun l => l.Pairwise (· < ·) ∧ (∀ e, e ∈ l ↔ ZoneR p pos shut r.steps e) ∧ l.length ≤ 400) (fun k s => ∃ vis zone, RI p pos shut r.steps 400 k s.2.2 vis zone ∧ Side p shut r.steps k vis zone s.2.1 s.1) 400 (s := ([], [], startQ p (portsF p r.steps))) (by
        rintro k ⟨zl, met, q⟩ ⟨vis, zone, h, hs⟩
        have hm := h.meas
        have hlz := hs.lz
        cases q with
        | nil =>
          left
          simp only at hm hlz
          refine ⟨zl, by simp [g_R12_Reach_l2], hs.rise, fun e => ?_, by omega⟩
          rw [hs.mem, assoc_mem]
          exact zone_all h e
        | cons x q =>
          right
          simp only [List.length_cons] at hm
          obtain ⟨zl', met', q', vis', zone', g1, g2, g3⟩ := Reach2_round hv hn (by omega) (by omega) h hs (by omega)
          exact ⟨by omega, _, g1, vis', zone', g2, g3⟩) ⟨[], [], RI_start hv hl, by simp, fun e => by simp [assoc], fun x _ _ _ => by simp [seenB, assoc], fun x hx => by simp at hx, fun x _ _ _ => by simp [seenB, assoc], fun x hx => by simp at hx, by simp, by simp⟩
      exact ⟨l, by simp only [g_R12_Reach_l1, dge, cond_false, h3, Option.map_some], h4⟩)
    (fun i x q hx hq => by
      have hi := ilt hx
      refine .inr ⟨q ++ [(nextP p x).getD ⟨0, 0⟩], ?_, ?_⟩
      · have : q.length ≤ 24 := by rw [hq]; unfold startQ; rw [List.length_map, List.length_take]; omega
        simp only [g_R12_Reach_l1, dlt hx, cond_true, idx_nat, hx, Option.bind_some, g_R6_Next_eq p (by omega), appI_ok (show q.length + [(nextP p x).getD (⟨0, 0⟩ : Port)].length ≤ 4294967296 by simp; omega), wi64_succ (show i < 1000000000 by omega)]
      · rw [hq, List.take_add_one, hx]
        unfold startQ
        simp only [Option.toList_some, List.map_append, List.map_cons, List.map_nil])
    rfl
  exact ⟨b, h1, h2⟩

theorem SideReaches_true (p : Plan) (k : Int) (pos : List Int) (shut : List Bool) (hk : (Lit.int .u8 k).wf = true) : g_L8_SideReaches p k pos shut = some true := by
  unfold g_L8_SideReaches
  simp only [known8, Option.bind_some, Bool.not_true, cond_false]
  obtain ⟨b, h1, h2⟩ := fine_total p
  simp only [h1, Option.bind_some]
  cases b with
  | false => rfl
  | true =>
    have hv := h2 rfl
    obtain ⟨o, h3, h4⟩ := made_total p
    obtain ⟨n, rfl, hn⟩ := h4 h1
    obtain ⟨r, b, h5, h6⟩ := L8_Road_eq hv hk
    simp only [Bool.not_true, cond_false]
    by_cases c1 : (100 : Int) < (pos.length : Int)
    · rw [decide_eq_true c1]; rfl
    by_cases c2 : (100 : Int) < (shut.length : Int)
    · rw [decide_eq_false c1, decide_eq_true c2]; rfl
    simp only [decide_eq_false c1, decide_eq_false c2, cond_false, Option.bind_some, h3, h5, optM]
    cases b with
    | false => rfl
    | true =>
      obtain ⟨s, hs⟩ := h6 rfl
      have hl := ofF_steps hs
      obtain ⟨l, e1, e2, e3, e4⟩ := Reach_spec hv hn hl pos shut
      obtain ⟨m, f1, f2, f3, f4⟩ := Reach2_spec hv hn hl pos shut
      have : l = m := strict_ext e2 f2 fun x => by rw [e3, f3]
      subst this
      simp only [Bool.not_true, cond_false, e1, f1, Option.bind_some, SameInts_refl l (by omega)]

end
end Go.E
