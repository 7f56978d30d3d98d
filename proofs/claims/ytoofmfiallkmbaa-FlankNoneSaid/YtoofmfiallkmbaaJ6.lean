/- Plain Lean: the ports on the sides of a road, and what is its own: the program's answer and the document's are one (laws SidePorts, SideOwns). No condition. -/
import Derived.KernelRfl
import Derived.Test.YtoofmfiallkmbaaJ5
set_option linter.unusedVariables false
set_option linter.unusedSimpArgs false
namespace Go.E
open Go

/-! ### a loop that lays what each part gives behind what there is -/
theorem flat_loop {α β γ : Type} (B : Nat) {l : List α} (f : α → List β) (hf : ∀ a, (f a).length ≤ 4) (hl : l.length ≤ 100000) {step : Int × List β → Option (Int × List β ⊕ γ)} {fin : List β → γ}
    (h0 : ∀ o, step ((l.length : Int), o) = some (.inr (fin o))) (h1 : ∀ (i : Nat) a o, l[i]? = some a → o.length ≤ B + 400000 → step ((i : Int), o) = some (.inl (((i + 1 : Nat) : Int), o ++ f a))) (o : List β) (ho : o.length ≤ B) :
    loopR step ((0 : Int), o) = some (fin (o ++ l.flatMap f)) := by
  have hlen : ∀ i, ((l.take i).flatMap f).length ≤ i * 4 := by
    intro i
    induction i with
    | zero => simp
    | succ i ih =>
      rw [List.take_add_one, List.flatMap_append, List.length_append]
      cases h : l[i]? with
      | none => simp only [Option.toList_none, List.flatMap_nil, List.length_nil]; omega
      | some a =>
        have := hf a
        simp only [Option.toList_some, List.flatMap_cons, List.flatMap_nil, List.append_nil]
        omega
  obtain ⟨b, h2, rfl⟩ := loop_st (l := l) (step := step) (Post := fun b => b = fin (o ++ l.flatMap f)) (fun i c => c = o ++ (l.take i).flatMap f) (c := o)
    (fun c hc => ⟨fin c, h0 c, by rw [hc, List.take_length]⟩)
    (fun i a c ha hc => by
      have hi := ilt ha
      have := hlen i
      refine .inr ⟨c ++ f a, h1 i a c ha (by rw [hc, List.length_append]; omega), ?_⟩
      rw [hc, List.take_add_one, ha]
      simp only [Option.toList_some, List.flatMap_append, List.flatMap_cons, List.flatMap_nil, List.append_nil, List.append_assoc])
    (by simp)
  exact h2

/-! ### the side ports -/
section
variable {p : Plan} {n : Net}

/-- The ends by which a road may be met at a step. -/
def sideK (p : Plan) (s : Step) : List Int :=
  if kindP p s.elem = 2 then [wi64 (3 - (if s.out > s.in_ then s.out else s.in_))] else if kindP p s.elem = 3 then (if 1 < s.in_ then [0, 1] else [2, 3]) else []

/-- Those that are joined. -/
def joinK (p : Plan) (e : Int) (k : Int) : List Port := if (nextP p ⟨e, k⟩).isSome then [⟨e, k⟩] else []

def portsS (p : Plan) (s : Step) : List Port := (sideK p s).flatMap (joinK p s.elem)

def portsF (p : Plan) (l : List Step) : List Port := l.flatMap (portsS p)

theorem sideK_len (s : Step) : (sideK p s).length ≤ 2 := by
  unfold sideK
  split
  · simp
  · split
    · split <;> simp
    · simp

theorem joinK_len (e k : Int) : (joinK p e k).length ≤ 1 := by unfold joinK; split <;> simp

theorem portsS_len (s : Step) : (portsS p s).length ≤ 2 := by
  have := flat_lenB (joinK p s.elem) 1 (sideK p s) fun k _ => joinK_len s.elem k
  have := sideK_len (p := p) s
  unfold portsS
  omega

theorem portsF_len (l : List Step) : (portsF p l).length ≤ l.length * 2 := flat_lenB _ 2 l fun s _ => portsS_len s

theorem Ports_l2 (hn : NetOf p n) (s : Step) (c : Int × List Port) (ks : List Int) (hk : ks.length ≤ 10) (o : List Port) (ho : o.length ≤ 400000) :
    loopR (g_side_Ports_l2 n c s ks) (0, o) = some (.inl (wi64 (c.1 + 1), o ++ ks.flatMap (joinK p s.elem))) := by
  refine flat_loop 400000 (l := ks) (joinK p s.elem) (fun k => by have := joinK_len (p := p) s.elem k; omega) (by omega) (fin := fun o => (Sum.inl (wi64 (c.1 + 1), o) : (Int × List Port) ⊕ List Port)) (fun o => ?_) (fun i a o ha hb => ?_) o ho
  · simp only [g_side_Ports_l2, dge, cond_false]
  · have := ilt ha
    simp only [g_side_Ports_l2, dlt ha, cond_true, idx_nat, ha, Option.bind_some, net_Next hn, wi64_succ (show i < 1000000000 by omega)]
    unfold joinK
    cases (nextP p ⟨s.elem, a⟩).isSome with
    | true => simp [appI_ok (show o.length + [(⟨s.elem, a⟩ : Port)].length ≤ 4294967296 by simp; omega)]
    | false => simp

theorem Ports_eq (hn : NetOf p n) (r : Road) (hl : r.steps.length ≤ 1000) : g_side_Ports n r = some (portsF p r.steps) := by
  unfold g_side_Ports
  rw [show portsF p r.steps = ([] : List Port) ++ r.steps.flatMap (portsS p) from rfl]
  refine flat_loop 0 (l := r.steps) (portsS p) (fun s => by have := portsS_len (p := p) s; omega) (by omega) (fin := fun o => o) (fun o => ?_) (fun i s o ha hb => ?_) [] (by simp)
  · simp only [g_side_Ports_l1, dge, cond_false]
  · have hi := ilt ha
    simp only [g_side_Ports_l1, dlt ha, cond_true, idx_nat, ha, Option.bind_some, net_Kind hn]
    have e : (bif (kindP p s.elem == 2) then some [wi64 (3 - (if s.out > s.in_ then s.out else s.in_))] else bif (kindP p s.elem == 3) then bif decide (1 < s.in_) then some [0, 1] else some [2, 3] else some ([] : List Int) : Option (List Int)) = some (sideK p s) := by
      unfold sideK
      by_cases c2 : kindP p s.elem = 2
      · simp [c2]
      · have b2 : (kindP p s.elem == 2) = false := beq_eq_false_iff_ne.2 c2
        by_cases c3 : kindP p s.elem = 3
        · by_cases d : 1 < s.in_ <;> simp [b2, c2, c3, d]
        · have b3 : (kindP p s.elem == 3) = false := beq_eq_false_iff_ne.2 c3
          simp [b2, b3, c2, c3]
    rw [e]
    have hk := sideK_len (p := p) s
    simp only [Option.bind_some, Ports_l2 hn s ((i : Int), o) (sideK p s) (by omega) o (by omega), wi64_succ (show i < 1000000000 by omega)]
    rfl

/-! ### the document's -/
/-! ### the road that a number names -/
theorem L8_Road_eq (hv : Valid p) {k : Int} (hk : (Lit.int .u8 k).wf = true) : ∃ r b, g_L8_Road p k = some (r, b) ∧ (b = true → ∃ s, r ∈ ofF p s) := by
  obtain ⟨h0, h1, h2⟩ := u8w hk
  unfold g_L8_Road
  simp only [R12_All_eq hv, Option.bind_some]
  by_cases c : (allR p).2 = 0
  · have c' : ((allR p).2 != 0) = false := by simp [c]
    by_cases d : (allR p).1.length = 0
    · exact ⟨(⟨0, 0, 0, [], [], [], [], [], false⟩ : Road), false, by simp [c', d], by simp⟩
    · have d' : (((allR p).1.length : Int) == 0) = false := by simp only [beq_eq_false_iff_ne, ne_eq]; omega
      obtain ⟨m, hm, m0, m1⟩ := mod_ok h0 (show (0 : Int) < ((allR p).1.length : Int) by omega)
      have e3 : ∃ r, idx (allR p).1 m = some r := by
        obtain ⟨q, rfl⟩ : ∃ q : Nat, m = (q : Int) := ⟨m.toNat, by omega⟩
        exact ⟨_, by rw [idx_nat, List.getElem?_eq_getElem (by omega)]⟩
      obtain ⟨r, hr⟩ := e3
      have hmem : r ∈ (allR p).1 := by
        obtain ⟨q, rfl⟩ : ∃ q : Nat, m = (q : Int) := ⟨m.toNat, by omega⟩
        rw [idx_nat] at hr
        exact List.mem_of_getElem? hr
      exact ⟨r, true, by simp only [c', d', cond_false, Option.bind_some, h2, hm, hr], fun _ => allR_mem hmem⟩
  · have c' : ((allR p).2 != 0) = true := by simp [c]
    exact ⟨(⟨0, 0, 0, [], [], [], [], [], false⟩ : Road), false, by simp [c'], by simp⟩

theorem ofF_steps {s : Int} {r : Road} (h : r ∈ ofF p s) : r.steps.length ≤ 12 := (ofF_road h).2.2.2.2.2.2.1

end

end Go.E
/- Plain Lean: which ports lie on the sides of a road (law SideApart). No condition. -/
namespace Go.E
open Go

section
variable {p : Plan} {n : Net}

end
end Go.E
/- Plain Lean: what the sides of a road reach, told without an order (Arr, ZoneR): the program's answer. No condition. -/
namespace Go.E
open Go

/-! ### maps with one entry more -/
def seenB (vis : List (Port × Bool)) (x : Port) : Bool := (assoc vis x).getD false

section
variable {p : Plan} {n : Net}

def shutP (p : Plan) (shut : List Bool) (x : Port) : Bool := decide (0 ≤ readsP p x) && (idx shut (readsP p x)).getD false

/-- The ports through which a train might come to a road's side. -/
inductive Arr (p : Plan) (pos : List Int) (shut : List Bool) (st : List Step) : Port → Prop
  | init {x y : Port} : x ∈ portsF p st → nextP p x = some y → Arr p pos shut st y
  | step {x y : Port} {o : Int} : Arr p pos shut st x → x.elem ∉ st.map (·.elem) → shutP p shut x = false → kindP p x.elem ≠ 4 → throughP p x.elem x.fin (lieW pos x.elem) = some o → nextP p ⟨x.elem, o⟩ = some y → Arr p pos shut st y

/-- The elements from which one might. -/
def ZoneR (p : Plan) (pos : List Int) (shut : List Bool) (st : List Step) (e : Int) : Prop :=
  ∃ x, Arr p pos shut st x ∧ x.elem = e ∧ e ∉ st.map (·.elem) ∧ shutP p shut x = false ∧ (kindP p e = 4 ∨ (throughP p e x.fin (lieW pos e)).isSome = true)

variable {pos : List Int} {shut : List Bool} {r : Road}

theorem Arr.from {st : List Step} {y : Port} (h : Arr p pos shut st y) : ∃ x, nextP p x = some y := by
  cases h with
  | init h1 h2 => exact ⟨_, h2⟩
  | step _ _ _ _ _ h2 => exact ⟨_, h2⟩

theorem has_range {x : Port} (h : hasP p x = true) : 0 ≤ x.elem ∧ x.elem < p.elems.length := by
  obtain ⟨h1, h2, h3⟩ := hasP_fin h
  refine kind_range fun e => ?_
  rw [e] at h3
  simp [endsF] at h3
  omega

def doneB (vis : List (Port × Bool)) (zone : List (Int × Bool)) (p : Plan) (y : Port) : Prop := seenB vis y = true ∨ (kindP p y.elem = 4 ∧ (assoc zone y.elem).isSome = true)

/-- Where a port leads that was looked at. -/
def fullB (p : Plan) (pos : List Int) (shut : List Bool) (st : List Step) (q : List Port) (vis : List (Port × Bool)) (zone : List (Int × Bool)) (x : Port) : Prop :=
  x.elem ∉ st.map (·.elem) → shutP p shut x = false → kindP p x.elem ≠ 4 ∧ ∀ o, throughP p x.elem x.fin (lieW pos x.elem) = some o → (assoc zone x.elem).isSome = true ∧ ∀ y, nextP p ⟨x.elem, o⟩ = some y → y ∈ q ∨ doneB vis zone p y

def unv (p : Plan) (vis : List (Port × Bool)) : Nat := ((portsP p).filter fun x => !seenB vis x).length

structure RI (p : Plan) (pos : List Int) (shut : List Bool) (st : List Step) (M k : Nat) (q : List Port) (vis : List (Port × Bool)) (zone : List (Int × Bool)) : Prop where
  arr : ∀ x ∈ q, Arr p pos shut st x
  full : ∀ x, seenB vis x = true → fullB p pos shut st q vis zone x
  init : ∀ x y, x ∈ portsF p st → nextP p x = some y → y ∈ q ∨ doneB vis zone p y
  zon : ∀ e, (assoc zone e).isSome = true → ZoneR p pos shut st e
  nodup : (zone.map (·.1)).Nodup
  len : zone.length ≤ k
  meas : k + q.length + 2 * unv p vis ≤ M

theorem RI.next {st : List Step} {M k : Nat} {x : Port} {q q' : List Port} {vis vis' : List (Port × Bool)} {zone zone' : List (Int × Bool)} (h : RI p pos shut st M k (x :: q) vis zone)
    (hq : ∀ y ∈ q, y ∈ q') (hq2 : ∀ y ∈ q', Arr p pos shut st y) (hv : ∀ y, seenB vis y = true → seenB vis' y = true) (hv2 : ∀ y, seenB vis' y = true → seenB vis y = true ∨ y = x)
    (hz : ∀ e, (assoc zone e).isSome = true → (assoc zone' e).isSome = true) (hz2 : ∀ e, (assoc zone' e).isSome = true → ZoneR p pos shut st e) (hz3 : (zone'.map (·.1)).Nodup) (hz4 : zone'.length ≤ zone.length + 1)
    (hx : doneB vis' zone' p x) (hf : seenB vis' x = true → seenB vis x = false → fullB p pos shut st q' vis' zone' x) (hm : q'.length + 2 * unv p vis' ≤ q.length + 2 * unv p vis) : RI p pos shut st M (k + 1) q' vis' zone' := by
  have keep : ∀ y, (y ∈ x :: q ∨ doneB vis zone p y) → y ∈ q' ∨ doneB vis' zone' p y := by
    rintro y (hy | hy | ⟨hy, hy2⟩)
    · rcases List.mem_cons.1 hy with rfl | hy
      · exact .inr hx
      · exact .inl (hq y hy)
    · exact .inr (.inl (hv y hy))
    · exact .inr (.inr ⟨hy, hz _ hy2⟩)
  refine ⟨hq2, fun y hy => ?_, fun a y ha hy => keep y (h.init a y ha hy), hz2, hz3, by have := h.len; omega, by have := h.meas; simp only [List.length_cons] at this; omega⟩
  have old : seenB vis y = true → fullB p pos shut st q' vis' zone' y := fun hy => fun h1 h2 => by
    obtain ⟨g1, g2⟩ := h.full y hy h1 h2
    exact ⟨g1, fun o ho => ⟨hz _ (g2 o ho).1, fun z hz' => keep z ((g2 o ho).2 z hz')⟩⟩
  rcases hv2 y hy with hy' | rfl
  · exact old hy'
  · cases c : seenB vis y with
    | true => exact old c
    | false => exact hf hy c

end
end Go.E
/- Plain Lean: the elements that Reach answers are those of ZoneR, ascending (laws SideShut, SideRuns). No condition. -/
namespace Go.E
open Go

section
variable {p : Plan} {n : Net} {pos : List Int} {shut : List Bool} {r : Road}

/-- The ports behind the side ports. -/
def startQ (p : Plan) (l : List Port) : List Port := l.map fun x => (nextP p x).getD ⟨0, 0⟩

/-! ### more signals shut -/
theorem shut_mono {a b : List Bool} (h : ∀ j : Nat, a[j]? = some true → b[j]? = some true) {x : Port} (hs : shutP p b x = false) : shutP p a x = false := by
  unfold shutP at *
  by_cases c : 0 ≤ readsP p x
  · obtain ⟨i, hi⟩ := Int.eq_ofNat_of_zero_le c
    rw [hi] at hs ⊢
    simp only [idx_nat, Int.natCast_nonneg, decide_true, Bool.true_and] at hs ⊢
    cases ha : a[i]? with
    | none => rfl
    | some v =>
      cases v with
      | false => rfl
      | true => rw [h i ha] at hs; cases hs
  · simp [c]

theorem Arr.mono {a b : List Bool} (h : ∀ j : Nat, a[j]? = some true → b[j]? = some true) {st : List Step} {x : Port} (hx : Arr p pos b st x) : Arr p pos a st x := by
  induction hx with
  | init h1 h2 => exact .init h1 h2
  | step h1 h2 h3 h4 h5 h6 ih => exact .step ih h2 (shut_mono h h3) h4 h5 h6

theorem ZoneR.mono {a b : List Bool} (h : ∀ j : Nat, a[j]? = some true → b[j]? = some true) {st : List Step} {e : Int} (hx : ZoneR p pos b st e) : ZoneR p pos a st e := by
  obtain ⟨x, h1, h2, h3, h4, h5⟩ := hx
  exact ⟨x, h1.mono h, h2, h3, shut_mono h h4, h5⟩

theorem ZoneR.range (hv : Valid p) {st : List Step} {e : Int} (h : ZoneR p pos shut st e) : 0 ≤ e ∧ e < p.elems.length := by
  obtain ⟨x, h1, rfl, _⟩ := h
  obtain ⟨w, hw⟩ := h1.from
  exact has_range (hv.join.next hw)

end
end Go.E
/- The example that the laws of flanks look at, reckoned by the kernel. No condition. -/
namespace Go.E
open Go Go.Proofs
set_option maxRecDepth 100000
theorem known9 : g_L9_known = some true := by kernel_rfl

end Go.E
/- Plain Lean: the flank of a road: how its search begins; a road without side ports (law FlankNone). No condition. -/
namespace Go.E
open Go

section
variable {p : Plan} {n : Net} {r : Road}

theorem flank_start (hv : Valid p) (hn : NetOf p n) (h1 : r.steps.length ≤ 12) (h2 : r.needs.length ≤ 1000) : g_flank_Of n r = loopR (g_flank_Of_l2 n r r.steps r.needs p) (false, [], [], [], [], (startQ p (portsF p r.steps)).reverse) := by
  unfold g_flank_Of
  have e1 : g_slices_Clone_apiStep r.steps = some r.steps := clone_eq _ (by omega)
  have e2 : g_slices_Clone_apiNeed r.needs = some r.needs := clone_eq _ (by omega)
  have e3 : g_net_Net_Plan n = some p := by unfold g_net_Net_Plan; rw [hn.plan, twin_eq p hv.few]; rfl
  simp only [e1, e2, e3, Option.bind_some, Ports_eq hn (⟨r.frm, r.to, r.fin, r.steps, r.needs, [], [], [], false⟩ : Road) (show r.steps.length ≤ 1000 by omega)]
  have hp := portsF_len (p := p) r.steps
  generalize hL : portsF p r.steps = L at hp
  have key : ∀ (k : Nat) (q : List Port), k ≤ L.length → q = (startQ p (L.drop k)).reverse → loopR (g_flank_Of_l1 n r r.steps r.needs p L) ((k : Int) - 1, q) = loopR (g_flank_Of_l2 n r r.steps r.needs p) (false, [], [], [], [], (startQ p L).reverse) := by
    intro k
    induction k with
    | zero =>
      intro q _ hq
      rw [List.drop_zero] at hq
      subst hq
      cases hr : loopR (g_flank_Of_l2 n r r.steps r.needs p) (false, [], [], [], [], (startQ p L).reverse) with
      | some b =>
        refine loopR_inr ?_
        have d : decide ((0 : Int) ≤ ((0 : Nat) : Int) - 1) = false := by decide
        simp only [g_flank_Of_l1, d, cond_false, hr, Option.map_some]
      | none =>
        rw [loopR_eq]
        have d : decide ((0 : Int) ≤ ((0 : Nat) : Int) - 1) = false := by decide
        simp only [g_flank_Of_l1, d, cond_false, hr, Option.map_none]
    | succ k ih =>
      intro q hk hq
      obtain ⟨x, hx⟩ : ∃ x, L[k]? = some x := ⟨_, List.getElem?_eq_getElem (by omega)⟩
      have hql : q.length ≤ 24 := by rw [hq]; unfold startQ; simp; omega
      have hd : L.drop k = x :: L.drop (k + 1) := by
        obtain ⟨h, e⟩ := List.getElem?_eq_some_iff.1 hx
        rw [List.drop_eq_getElem_cons h, e]
      rw [← ih (q ++ [(nextP p x).getD ⟨0, 0⟩]) (by omega) (by rw [hd, hq]; unfold startQ; simp)]
      refine loopR_inl ?_
      have d : decide ((0 : Int) ≤ (k : Int)) = true := decide_eq_true (by omega)
      have e : (((k + 1 : Nat) : Int) - 1) = (k : Int) := by omega
      have w : wi64 ((k : Int) - 1) = (k : Int) - 1 := by rw [wi64_id] <;> omega
      simp only [g_flank_Of_l1, d, cond_true, e, idx_nat, hx, Option.bind_some, net_Next hn, appI_ok (show q.length + [(nextP p x).getD (⟨0, 0⟩ : Port)].length ≤ 4294967296 by simp; omega), w]
  have w : wi64 ((L.length : Int) - 1) = (L.length : Int) - 1 := by rw [wi64_id] <;> omega
  rw [w]
  exact key L.length [] (Nat.le_refl _) (by simp [startQ])

theorem flank_none (hv : Valid p) (hn : NetOf p n) (h1 : r.steps.length ≤ 12) (h2 : r.needs.length ≤ 1000) (h : portsF p r.steps = []) : g_flank_Of n r = some ⟨r.frm, r.to, r.fin, r.steps, r.needs, [], [], [], false⟩ := by
  rw [flank_start hv hn h1 h2, h]
  exact loopR_inr rfl

theorem FlankNone_true (p : Plan) (k : Int) (hk : (Lit.int .u8 k).wf = true) : g_L9_FlankNone p k = some true := by
  unfold g_L9_FlankNone
  simp only [known9, Option.bind_some, Bool.not_true, cond_false]
  obtain ⟨b, h1, h2⟩ := fine_total p
  simp only [h1, Option.bind_some]
  cases b with
  | false => rfl
  | true =>
    have hv := h2 rfl
    obtain ⟨o, h3, h4⟩ := made_total p
    obtain ⟨n, rfl, hn⟩ := h4 h1
    obtain ⟨r, b, h5, h6⟩ := L8_Road_eq hv hk
    simp only [Bool.not_true, cond_false, h3, h5, Option.bind_some, optM]
    cases b with
    | false => rfl
    | true =>
      obtain ⟨s, hs⟩ := h6 rfl
      have hl := ofF_steps hs
      have hnd : r.needs.length ≤ 12 := (ofF_road hs).2.2.2.2.2.2.2.2
      simp only [Bool.not_true, cond_false, Ports_eq hn r (by omega), Option.bind_some]
      by_cases c : portsF p r.steps = []
      · rw [c, flank_none hv hn hl (by omega) c]
        simp only [Option.bind_some]
        decide
      · have d : decide ((0 : Int) < (((portsF p r.steps).length : Nat) : Int)) = true := by
          have := List.length_pos_iff.2 c
          exact decide_eq_true (by omega)
        rw [d]; rfl

end
end Go.E
