/- Plain Lean: which ports lie on the sides of a road (law SideApart). No condition. -/
import Derived.KernelRfl
import Derived.Test.YtilbadmonidmhaaGreatJ5
set_option linter.unusedVariables false
set_option linter.unusedSimpArgs false
namespace Go.E
open Go
section
variable {p : Plan} {n : Net}
theorem ends_le (k : Int) : 0 <= endsF k /\ endsF k <= 4 := by
 unfold endsF
 repeat' split
 all_goals omega
end
end Go.E
/- Plain Lean: what the sides of a road reach, told without an order (Arr, ZoneR): the program's answer. No condition. -/
namespace Go.E
open Go
def seenB (vis : List (Port × Bool)) (x : Port) : Bool := (assoc vis x).getD false
theorem seenB_aput (vis : List (Port × Bool)) (x y : Port) : seenB (aput x true vis) y = true ↔ y = x \/ seenB vis y = true := by
 unfold seenB
 rw [assoc_aput']
 by_cases e : y = x <;> simp [e]
theorem filter_less {α : Type} {P P' : α -> Bool} (hpp : ∀ z, P' z = true -> P z = true) : ∀ l : List α, (l.filter P').length <= (l.filter P).length /\ ∀ x ∈ l, P x = true -> P' x = false -> (l.filter P').length + 1 <= (l.filter P).length
 | [] => ⟨Nat.le_refl _, by simp⟩
 | a :: l => by
  obtain ⟨h1, h2⟩ := filter_less hpp l
  rw [List.filter_cons, List.filter_cons]
  by_cases c : P' a = true
  .rw [if_pos c, if_pos (hpp a c)]
   simp only [List.length_cons]
   refine ⟨by omega, fun x hx hp hp' => ?_⟩
   rcases List.mem_cons.1 hx with rfl | hx
   .rw [c] at hp'; cases hp'
   .have := h2 x hx hp hp'; omega
  .rw [if_neg c]
   by_cases d : P a = true
   .rw [if_pos d]
    simp only [List.length_cons]
    exact ⟨by omega, fun x hx hp hp' => by omega⟩
   .rw [if_neg d]
    refine ⟨h1, fun x hx hp hp' => ?_⟩
    rcases List.mem_cons.1 hx with rfl | hx
    .exact absurd hp d
    .exact h2 x hx hp hp'
section
variable {p : Plan} {n : Net}
def shutP (p : Plan) (shut : List Bool) (x : Port) : Bool := decide (0 <= readsP p x) && (idx shut (readsP p x)).getD false
inductive Arr (p : Plan) (pos : List Int) (shut : List Bool) (st : List Step) : Port -> Prop
 | init {x y : Port} : x ∈ portsF p st -> nextP p x = some y -> Arr p pos shut st y
 | step {x y : Port} {o : Int} : Arr p pos shut st x -> x.elem ∉ st.map (·.elem) -> shutP p shut x = false -> kindP p x.elem ≠ 4 -> throughP p x.elem x.fin (lieW pos x.elem) = some o -> nextP p ⟨x.elem, o⟩ = some y -> Arr p pos shut st y
def ZoneR (p : Plan) (pos : List Int) (shut : List Bool) (st : List Step) (e : Int) : Prop :=
 ∃ x, Arr p pos shut st x /\ x.elem = e /\ e ∉ st.map (·.elem) /\ shutP p shut x = false /\ (kindP p e = 4 \/ (throughP p e x.fin (lieW pos e)).isSome = true)
variable {pos : List Int} {shut : List Bool} {r : Road}
theorem Arr.from {st : List Step} {y : Port} (h : Arr p pos shut st y) : ∃ x, nextP p x = some y := by
 cases h with
 | init h1 h2 => exact ⟨_, h2⟩
 | step _ _ _ _ _ h2 => exact ⟨_, h2⟩
theorem has_range {x : Port} (h : hasP p x = true) : 0 <= x.elem /\ x.elem < p.elems.length := by
 obtain ⟨h1, h2, h3⟩ := hasP_fin h
 refine kind_range fun e => ?_
 rw [e] at h3
 simp [endsF] at h3
 omega
def doneB (vis : List (Port × Bool)) (zone : List (Int × Bool)) (p : Plan) (y : Port) : Prop := seenB vis y = true \/ (kindP p y.elem = 4 /\ (assoc zone y.elem).isSome = true)
def fullB (p : Plan) (pos : List Int) (shut : List Bool) (st : List Step) (q : List Port) (vis : List (Port × Bool)) (zone : List (Int × Bool)) (x : Port) : Prop :=
 x.elem ∉ st.map (·.elem) -> shutP p shut x = false -> kindP p x.elem ≠ 4 /\ ∀ o, throughP p x.elem x.fin (lieW pos x.elem) = some o -> (assoc zone x.elem).isSome = true /\ ∀ y, nextP p ⟨x.elem, o⟩ = some y -> y ∈ q \/ doneB vis zone p y
def unv (p : Plan) (vis : List (Port × Bool)) : Nat := ((portsP p).filter fun x => !seenB vis x).length
structure RI (p : Plan) (pos : List Int) (shut : List Bool) (st : List Step) (M k : Nat) (q : List Port) (vis : List (Port × Bool)) (zone : List (Int × Bool)) : Prop where
 arr : ∀ x ∈ q, Arr p pos shut st x
 full : ∀ x, seenB vis x = true -> fullB p pos shut st q vis zone x
 init : ∀ x y, x ∈ portsF p st -> nextP p x = some y -> y ∈ q \/ doneB vis zone p y
 zon : ∀ e, (assoc zone e).isSome = true -> ZoneR p pos shut st e
 nodup : (zone.map (·.1)).Nodup
 len : zone.length <= k
 meas : k + q.length + 2 * unv p vis <= M
theorem RI.next {st : List Step} {M k : Nat} {x : Port} {q q' : List Port} {vis vis' : List (Port × Bool)} {zone zone' : List (Int × Bool)} (h : RI p pos shut st M k (x :: q) vis zone)
  (hq : ∀ y ∈ q, y ∈ q') (hq2 : ∀ y ∈ q', Arr p pos shut st y) (hv : ∀ y, seenB vis y = true -> seenB vis' y = true) (hv2 : ∀ y, seenB vis' y = true -> seenB vis y = true \/ y = x)
  (hz : ∀ e, (assoc zone e).isSome = true -> (assoc zone' e).isSome = true) (hz2 : ∀ e, (assoc zone' e).isSome = true -> ZoneR p pos shut st e) (hz3 : (zone'.map (·.1)).Nodup) (hz4 : zone'.length <= zone.length + 1)
  (hx : doneB vis' zone' p x) (hf : seenB vis' x = true -> seenB vis x = false -> fullB p pos shut st q' vis' zone' x) (hm : q'.length + 2 * unv p vis' <= q.length + 2 * unv p vis) : RI p pos shut st M (k + 1) q' vis' zone' := by
 have keep : ∀ y, (y ∈ x :: q \/ doneB vis zone p y) -> y ∈ q' \/ doneB vis' zone' p y := by
  rintro y (hy | hy | ⟨hy, hy2⟩)
  .rcases List.mem_cons.1 hy with rfl | hy
   .exact .inr hx
   .exact .inl (hq y hy)
  .exact .inr (.inl (hv y hy))
  .exact .inr (.inr ⟨hy, hz _ hy2⟩)
 refine ⟨hq2, fun y hy => ?_, fun a y ha hy => keep y (h.init a y ha hy), hz2, hz3, by have := h.len; omega, by have := h.meas; simp only [List.length_cons] at this; omega⟩
 have old : seenB vis y = true -> fullB p pos shut st q' vis' zone' y := fun hy => fun h1 h2 => by
  obtain ⟨g1, g2⟩ := h.full y hy h1 h2
  exact ⟨g1, fun o ho => ⟨hz _ (g2 o ho).1, fun z hz' => keep z ((g2 o ho).2 z hz')⟩⟩
 rcases hv2 y hy with hy' | rfl
 .exact old hy'
 .cases c : seenB vis y with
  | true => exact old c
  | false => exact hf hy c
theorem slO_tail {α : Type} (x : α) (l : List α) : slO (x :: l) 1 (((x :: l).length : Nat) : Int) = some l := by
 show slI (x :: l) _ _ = _
 unfold slI
 rw [if_pos ⟨by omega, by simp; omega, by omega⟩]
 simp
end
end Go.E
/- Plain Lean: the elements that Reach answers are those of ZoneR, ascending (laws SideShut, SideRuns). No condition. -/
namespace Go.E
open Go
section
variable {p : Plan} {n : Net} {pos : List Int} {shut : List Bool} {r : Road}
theorem Arr.in_ports {st : List Step} {x : Port} (h : Arr p pos shut st x) : x ∈ portsP p := by
 obtain ⟨y, hy⟩ := h.from
 exact nextL_mem hy
theorem unv_le {vis : List (Port × Bool)} (x : Port) : unv p (aput x true vis) <= unv p vis :=
 (filter_less (fun z hz => by
  cases hs : seenB vis z with
  | false => rfl
  | true =>
   have := (seenB_aput vis x z).2 (.inr hs)
   simp only [this, Bool.not_true] at hz
   cases hz) (portsP p)).1
theorem unv_lt {vis : List (Port × Bool)} {x : Port} (hx : x ∈ portsP p) (hv : seenB vis x = false) : unv p (aput x true vis) + 1 <= unv p vis :=
 (filter_less (fun z hz => by
  cases hs : seenB vis z with
  | false => rfl
  | true =>
   have := (seenB_aput vis x z).2 (.inr hs)
   simp only [this, Bool.not_true] at hz
   cases hz) (portsP p)).2 x hx (by simp [hv]) (by simp [(seenB_aput vis x x).2 (.inl rfl)])
def startQ (p : Plan) (l : List Port) : List Port := l.map fun x => (nextP p x).getD ⟨0, 0⟩
theorem ports_joined {l : List Step} {x : Port} (h : x ∈ portsF p l) : ∃ y, nextP p x = some y := by
 unfold portsF portsS at h
 obtain ⟨s, _, h⟩ := List.mem_flatMap.1 h
 obtain ⟨k, _, h⟩ := List.mem_flatMap.1 h
 unfold joinK at h
 split at h
 .rename_i hs
  simp at h
  subst h
  exact Option.isSome_iff_exists.1 hs
 .simp at h
theorem shut_mono {a b : List Bool} (h : ∀ j : Nat, a[j]? = some true -> b[j]? = some true) {x : Port} (hs : shutP p b x = false) : shutP p a x = false := by
 unfold shutP at *
 by_cases c : 0 <= readsP p x
 .obtain ⟨i, hi⟩ := Int.eq_ofNat_of_zero_le c
  rw [hi] at hs ⊢
  simp only [idx_nat, Int.natCast_nonneg, decide_true, Bool.true_and] at hs ⊢
  cases ha : a[i]? with
  | none => rfl
  | some v =>
   cases v with
   | false => rfl
   | true => rw [h i ha] at hs; cases hs
 .simp [c]
theorem Arr.mono {a b : List Bool} (h : ∀ j : Nat, a[j]? = some true -> b[j]? = some true) {st : List Step} {x : Port} (hx : Arr p pos b st x) : Arr p pos a st x := by
 induction hx with
 | init h1 h2 => exact .init h1 h2
 | step h1 h2 h3 h4 h5 h6 ih => exact .step ih h2 (shut_mono h h3) h4 h5 h6
theorem ZoneR.mono {a b : List Bool} (h : ∀ j : Nat, a[j]? = some true -> b[j]? = some true) {st : List Step} {e : Int} (hx : ZoneR p pos b st e) : ZoneR p pos a st e := by
 obtain ⟨x, h1, h2, h3, h4, h5⟩ := hx
 exact ⟨x, h1.mono h, h2, h3, shut_mono h h4, h5⟩
theorem ZoneR.range (hv : Valid p) {st : List Step} {e : Int} (h : ZoneR p pos shut st e) : 0 <= e /\ e < p.elems.length := by
 obtain ⟨x, h1, rfl, _⟩ := h
 obtain ⟨w, hw⟩ := h1.from
 exact has_range (hv.join.next hw)
end
end Go.E
/- Plain Lean: what is reached is in order, outside the road, and no more if more signals are shut (law SideShut); a run that comes in from the side begins in it (law SideRuns). No condition. -/
namespace Go.E
open Go
section
variable {p : Plan} {n : Net} {pos : List Int} {shut : List Bool} {r : Road}
theorem net_Len (hn : NetOf p n) : q_1r n = some (p.elems.length : Int) := by
 unfold q_1r; rw [hn.plan]
end
end Go.E
/- Plain Lean: a run that comes in from the side begins in an element that is reached (law SideRuns). No condition. -/
namespace Go.E
open Go
section
variable {p : Plan} {n : Net} {pos : List Int} {shut : List Bool} {r : Road}
theorem outs_back {e i : Int} {w : Way} (h : w ∈ outsP p e i) : (⟨i, w.pos⟩ : Way) ∈ outsP p e w.out := by
 obtain ⟨f1, f2, f3, f4, f5, _⟩ := outs_fact h
 have hh : hasP p ⟨e, i⟩ = true := by simp [hasP, f3, f4]
 have hh2 : hasP p ⟨e, w.out⟩ = true := by simp [hasP, f1, f2]
 unfold outsP at h ⊢
 rw [hh] at h
 rw [hh2]
 simp only [if_true] at h ⊢
 by_cases k1 : kindP p e = 1
 .rw [if_pos k1] at h ⊢
  simp at h
  subst h
  simp; omega
 .rw [if_neg k1] at h ⊢
  by_cases k3 : kindP p e = 3
  .rw [if_pos k3] at h ⊢
   rw [k3] at f4
   simp [endsF] at f4
   simp at h
   subst h
   have : i = 0 \/ i = 1 \/ i = 2 \/ i = 3 := by omega
   rcases this with rfl | rfl | rfl | rfl <;> simp
  .rw [if_neg k3] at h ⊢
   by_cases k2 : kindP p e = 2
   .rw [if_pos k2] at h ⊢
    rw [k2] at f4
    simp [endsF] at f4
    by_cases i0 : i = 0
    .subst i0
     simp at h
     rcases h with rfl | rfl <;> simp
    .rw [if_neg i0] at h
     simp at h
     subst h
     have : i = 1 \/ i = 2 := by omega
     rcases this with rfl | rfl <;> simp
   .rw [if_neg k2] at h; simp at h
theorem through_back {e i x o : Int} (h : throughP p e i x = some o) : throughP p e o x = some i := by
 obtain ⟨w, hw, rfl, hx⟩ := through_some h
 have := outs_back hw
 exact through_of this hx
end
end Go.E
/- Plain Lean: what the sides of a road reach: the document's answer and the program's are one (law SideReaches). No condition. -/
namespace Go.E
open Go
theorem hasPort_eq (l : List Port) (hl : l.length < 1000000) (x : Port) : q_36 l x = some (decide (x ∈ l)) := by
 unfold q_36
 obtain ⟨b, h1, h2⟩ := loop_ix (l := l) (step := q_u l x) (Post := fun b => b = decide (x ∈ l)) (fun _ y => y ≠ x) (fun good => ⟨false, by simp [q_u], by
   symm; rw [decide_eq_false_iff_not]; intro hm
   obtain ⟨i, hi⟩ := List.getElem?_of_mem hm
   exact good i x hi rfl⟩) (fun i a ha _ => by
   have := ilt ha
   by_cases e : a = x
   .exact .inl ⟨true, by simp only [q_u, dlt ha, cond_true, idx_nat, ha, Option.bind_some, e, beq_self_eq_true], by symm; rw [decide_eq_true_iff]; subst e; exact List.mem_of_getElem? ha⟩
   .have : (a == x) = false := beq_eq_false_iff_ne.2 e
    exact .inr ⟨by simp only [q_u, dlt ha, cond_true, idx_nat, ha, Option.bind_some, this, cond_false, wi64_succ (show i < 1000000000 by omega)], e⟩)
 rw [h1, h2]
section
variable {p : Plan} {n : Net} {pos : List Int} {shut : List Bool} {r : Road}
theorem R6_Through_eq (p : Plan) (e i x : Int) : q_3u p e i x = some ((throughP p e i x).getD 0, (throughP p e i x).isSome) := by
 unfold q_3u throughP
 rw [R6_Outs_eq]
 simp only [Option.bind_some]
 have hl := outsP_len p e i
 refine loop_list (γ := Unit) (outsP p e i) (fun k _ => (k : Int)) (fun _ _ r => some ((throughL r x).getD 0, (throughL r x).isSome)) (fun _ => ?_) (fun k _ a r ha hi => ?_) ()
 .simp [q_3i, throughL]
 .simp only [q_3i, idx_nat, ha, Option.bind_some, dlt ha, cond_true, throughL, cbeq]
  by_cases h1 : a.pos = 0
  .left; simp [h1]
  .by_cases h2 : a.pos = x
   .left
    simp [h1, h2]
   .right
    have : (a.pos == x) = false := beq_eq_false_iff_ne.2 h2
    exact ⟨(), by simp [h1, this, wi64_succ (show k < 1000000000 by omega)], by simp [h1, h2]⟩
theorem through_range {e f x o : Int} (h : throughP p e f x = some o) : 0 <= o /\ o < endsF (kindP p e) := by
 obtain ⟨w, hw, rfl, _⟩ := through_some h
 have := outs_fact hw
 exact ⟨this.1, this.2.1⟩
theorem R6_From_eq (p : Plan) (e f x : Int) : q_5e p e f x = some ((throughP p e f x).getD 0, (throughP p e f x).isSome) := by
 unfold q_5e
 have he := ends_le (kindP p e)
 obtain ⟨b, h1, rfl⟩ := loop_up (step := q_4x p e f x) (Post := fun b => b = ((throughP p e f x).getD 0, (throughP p e f x).isSome)) (fun k i => i = (k : Int) /\ (k : Int) <= endsF (kindP p e) /\ ∀ o, throughP p e f x = some o -> (k : Int) <= o) 5 (s := (0 : Int)) (by
  rintro k i ⟨rfl, h2, h3⟩
  simp only [q_4x, g_R6_kind_eq, g_R6_Ends_eq, Option.bind_some]
  by_cases d : (k : Int) < endsF (kindP p e)
  .rw [decide_eq_true d]
   simp only [cond_true, R6_Through_eq, Option.bind_some]
   by_cases c : throughP p e (k : Int) x = some f
   .left
    refine ⟨_, ?_, rfl⟩
    rw [c, through_back c]
    simp
   .right
    refine ⟨by omega, ((k + 1 : Nat) : Int), ?_, rfl, by omega, fun o ho => ?_⟩
    .have w := wi64_succ (show k < 1000000000 by omega)
     cases ht : throughP p e (k : Int) x with
     | none => simp only [Option.isSome_none, cond_false, Option.bind_some, w]
     | some v =>
      have hne : (v == f) = false := beq_eq_false_iff_ne.2 (fun hv => c (by rw [ht, hv]))
      simp only [Option.isSome_some, Option.getD_some, cond_true, Option.bind_some, hne, cond_false, w]
    .have := h3 o ho
     have hne : (k : Int) ≠ o := fun hk => c (by rw [hk]; exact through_back ho)
     omega
  .left
   refine ⟨_, ?_, rfl⟩
   rw [decide_eq_false d]
   cases ht : throughP p e f x with
   | none => rfl
   | some o =>
    have := h3 o ht
    have := through_range ht
    omega) ⟨rfl, by omega, fun o ho => (through_range ho).1⟩
 exact h1
end
end Go.E
/- The example that the laws of flanks look at, reckoned by the kernel. No condition. -/
namespace Go.E
open Go Go.Proofs
set_option maxRecDepth 100000
end Go.E
/- The example that the laws of proofs look at, reckoned by the kernel. No condition. -/
namespace Go.E
open Go Go.Proofs
set_option maxRecDepth 100000
theorem known12 : q_57 = some true := by kernel_rfl
end Go.E
/- Plain Lean: the flank of a road: how its search begins; a road without side ports (law FlankNone). No condition. -/
namespace Go.E
open Go
theorem contains_int (l : List Int) (hl : l.length < 1000000) (x : Int) : q_0 l x = some (decide (x ∈ l)) := by
 unfold q_0 q_2b
 obtain ⟨t, h1, h2⟩ := index_loop (l := l) (f := fun a => x == a) hl (step := q_k l x) (by simp [q_k]) (fun i a ha => by
  have := ilt ha
  simp only [q_k, dlt ha, cond_true, idx_nat, ha, Option.bind_some, wi64_succ (show i < 1000000000 by omega)]
  cases hb : (x == a) <;> simp)
 rw [h1]
 simp only [Option.bind_some, Option.some.injEq]
 rcases h2 with ⟨rfl, h2⟩ | ⟨a, h0, h2, _⟩
 .have : x ∉ l := fun h => by have := List.find?_eq_none.1 h2 x h; simp at this
  simp [this]
 .have hm := List.mem_of_find?_eq_some h2
  have he := List.find?_some h2
  simp only [beq_iff_eq] at he
  subst he
  simp [h0, hm]
theorem contains_need (l : List Need) (hl : l.length < 1000000) (x : Need) : q_5 l x = some (decide (x ∈ l)) := by
 unfold q_5 q_14
 obtain ⟨t, h1, h2⟩ := index_loop (l := l) (f := fun a => x == a) hl (step := q_9 l x) (by simp [q_9]) (fun i a ha => by
  have := ilt ha
  simp only [q_9, dlt ha, cond_true, idx_nat, ha, Option.bind_some, wi64_succ (show i < 1000000000 by omega)]
  cases hb : (x == a) <;> simp)
 rw [h1]
 simp only [Option.bind_some, Option.some.injEq]
 rcases h2 with ⟨rfl, h2⟩ | ⟨a, h0, h2, _⟩
 .have : x ∉ l := fun h => by have := List.find?_eq_none.1 h2 x h; simp at this
  simp [this]
 .have hm := List.mem_of_find?_eq_some h2
  have he := List.find?_some h2
  simp only [beq_iff_eq] at he
  subst he
  simp [h0, hm]
section
variable {p : Plan} {n : Net} {r : Road}
theorem flank_start (hv : Valid p) (hn : NetOf p n) (h1 : r.steps.length <= 12) (h2 : r.needs.length <= 1000) : q_1z n r = loopR (q_s n r r.steps r.needs p) (false, [], [], [], [], (startQ p (portsF p r.steps)).reverse) := by
 unfold q_1z
 have e1 : q_3 r.steps = some r.steps := clone_eq _ (by omega)
 have e2 : q_6 r.needs = some r.needs := clone_eq _ (by omega)
 have e3 : q_d n = some p := by unfold q_d; rw [hn.plan, twin_eq p hv.few]; rfl
 simp only [e1, e2, e3, Option.bind_some, Ports_eq hn (⟨r.frm, r.to, r.fin, r.steps, r.needs, [], [], [], false⟩ : Road) (show r.steps.length <= 1000 by omega)]
 have hp := portsF_len (p := p) r.steps
 generalize hL : portsF p r.steps = L at hp
 have key : ∀ (k : Nat) (q : List Port), k <= L.length -> q = (startQ p (L.drop k)).reverse -> loopR (q_1y n r r.steps r.needs p L) ((k : Int) - 1, q) = loopR (q_s n r r.steps r.needs p) (false, [], [], [], [], (startQ p L).reverse) := by
  intro k
  induction k with
  | zero =>
   intro q _ hq
   rw [List.drop_zero] at hq
   subst hq
   cases hr : loopR (q_s n r r.steps r.needs p) (false, [], [], [], [], (startQ p L).reverse) with
   | some b =>
    refine loopR_inr ?_
    have d : decide ((0 : Int) <= ((0 : Nat) : Int) - 1) = false := by decide
    simp only [q_1y, d, cond_false, hr, Option.map_some]
   | none =>
    rw [loopR_eq]
    have d : decide ((0 : Int) <= ((0 : Nat) : Int) - 1) = false := by decide
    simp only [q_1y, d, cond_false, hr, Option.map_none]
  | succ k ih =>
   intro q hk hq
   obtain ⟨x, hx⟩ : ∃ x, L[k]? = some x := ⟨_, List.getElem?_eq_getElem (by omega)⟩
   have hql : q.length <= 24 := by rw [hq]; unfold startQ; simp; omega
   have hd : L.drop k = x :: L.drop (k + 1) := by
    obtain ⟨h, e⟩ := List.getElem?_eq_some_iff.1 hx
    rw [List.drop_eq_getElem_cons h, e]
   rw [<- ih (q ++ [(nextP p x).getD ⟨0, 0⟩]) (by omega) (by rw [hd, hq]; unfold startQ; simp)]
   refine loopR_inl ?_
   have d : decide ((0 : Int) <= (k : Int)) = true := decide_eq_true (by omega)
   have e : (((k + 1 : Nat) : Int) - 1) = (k : Int) := by omega
   have w : wi64 ((k : Int) - 1) = (k : Int) - 1 := by rw [wi64_id] <;> omega
   simp only [q_1y, d, cond_true, e, idx_nat, hx, Option.bind_some, net_Next hn, appI_ok (show q.length + [(nextP p x).getD (⟨0, 0⟩ : Port)].length <= 4294967296 by simp; omega), w]
 have w : wi64 ((L.length : Int) - 1) = (L.length : Int) - 1 := by rw [wi64_id] <;> omega
 rw [w]
 exact key L.length [] (Nat.le_refl _) (by simp [startQ])
end
end Go.E
/- Plain Lean: the flank of a road: one round of its search; what holds behind it. No condition. -/
namespace Go.E
open Go
section
variable {p : Plan} {n : Net} {r : Road}
def takeZ (b : Bool) (z : List Int) (e : Int) : Bool × Bool × List Int := if e ∈ z then (true, b, z) else if 12 <= z.length then (false, true, z) else (true, b, z ++ [e])
def pushN (p : Plan) (l : List Port) (x : Port) : List Port := match nextP p x with
 | some y => l ++ [y]
 | none => l
abbrev FS := Bool × List (Port × Bool) × List Need × List Int × List Int × List Port
def fstep (p : Plan) (st : List Step) (nd : List Need) (b : Bool) (vis : List (Port × Bool)) (g : List Need) (z h : List Int) (l : List Port) (x : Port) : FS :=
 if x.elem ∈ st.map (·.elem) \/ seenB vis x = true then (b, vis, g, z, h, l)
 else if 0 <= readsP p x /\ p.hard = false then (b, aput x true vis, g, z, if readsP p x ∈ h then h else h ++ [readsP p x], l)
 else if kindP p x.elem = 4 then (true, aput x true vis, g, z, h, l)
 else if kindP p x.elem = 2 then
  if x.fin = 0 then ((takeZ b z x.elem).2.1, aput x true vis, g, (takeZ b z x.elem).2.2, h, if (takeZ b z x.elem).1 then pushN p (pushN p l ⟨x.elem, 2⟩) ⟨x.elem, 1⟩ else l)
  else if ⟨x.elem, x.fin⟩ ∈ nd \/ ⟨x.elem, x.fin⟩ ∈ g then ((takeZ b z x.elem).2.1, aput x true vis, g, (takeZ b z x.elem).2.2, h, if (takeZ b z x.elem).1 then pushN p l ⟨x.elem, 0⟩ else l)
  else (b, aput x true vis, if ⟨x.elem, wi64 (3 - x.fin)⟩ ∈ g then g else g ++ [⟨x.elem, wi64 (3 - x.fin)⟩], z, h, l)
 else match throughP p x.elem x.fin 0 with
  | none => (b, aput x true vis, g, z, h, l)
  | some o => ((takeZ b z x.elem).2.1, aput x true vis, g, (takeZ b z x.elem).2.2, h, if (takeZ b z x.elem).1 then pushN p l ⟨x.elem, o⟩ else l)
theorem takeZ_eq (b : Bool) (z : List Int) (e : Int) (hz : z.length <= 1000) : ((q_0 z e).bind fun y => bif y then some (true, b, z) else bif decide (12 <= (z.length : Int)) then some (false, true, z) else (appI z [e]).bind fun y' => some (true, b, y') : Option (Bool × Bool × List Int)) = some (takeZ b z e) := by
 rw [contains_int z (by omega)]
 unfold takeZ
 simp only [Option.bind_some]
 by_cases c : e ∈ z
 .rw [decide_eq_true c, if_pos c]; rfl
 .rw [decide_eq_false c, if_neg c]
  by_cases d : 12 <= z.length
  .rw [if_pos d, decide_eq_true (show (12 : Int) <= (z.length : Int) by omega)]; rfl
  .rw [if_neg d, decide_eq_false (show ¬ (12 : Int) <= (z.length : Int) by omega)]
   simp only [cond_false, appI_ok (show z.length + [e].length <= 4294967296 by simp; omega), Option.bind_some]
theorem pushN_eq (hn : NetOf p n) (l : List Port) (x : Port) (hl : l.length <= 1000000) : ((q_1 n x).bind fun y => bif y.2 then (appI l [y.1]).bind fun y' => some y' else some l : Option (List Port)) = some (pushN p l x) := by
 rw [net_Next hn]
 unfold pushN
 cases nextP p x with
 | none => rfl
 | some y => simp only [Option.bind_some, Option.isSome_some, Option.getD_some, cond_true, appI_ok (show l.length + [y].length <= 4294967296 by simp; omega)]
theorem pushN_len (l : List Port) (x : Port) : (pushN p l x).length <= l.length + 1 := by unfold pushN; split <;> simp
theorem flank_step (hn : NetOf p n) (h1 : r.steps.length <= 12) (h2 : r.needs.length <= 1000) (b : Bool) (vis : List (Port × Bool)) (g : List Need) (z h : List Int) (l : List Port) (x : Port) (hg : g.length <= 1000) (hz : z.length <= 1000) (hh : h.length <= 1000) (hl : l.length <= 1000) :
  q_s n r r.steps r.needs p (b, vis, g, z, h, l ++ [x]) = some (.inl (fstep p r.steps r.needs b vis g z h l x)) := by
 have d : decide ((0 : Int) < (((l ++ [x]).length : Nat) : Int)) = true := by simp
 have w := wl_snoc l x (by omega)
 have i1 := idx_sn x (rfl : l.length = l.length)
 have s1 := slO_at x (rfl : l.length = l.length)
 have own := Own_eq (⟨r.frm, r.to, r.fin, r.steps, r.needs, g, z, h, b⟩ : Road) (show r.steps.length < 1000000 by omega) x.elem
 have tz := takeZ_eq b z x.elem hz
 have vb : (assoc vis x).getD false = seenB vis x := rfl
 unfold q_s fstep
 simp only [d, cond_true, w, i1, s1, own, Option.bind_some, vb]
 by_cases c : x.elem ∈ r.steps.map (·.elem) \/ seenB vis x = true
 .rw [if_pos c]
  rcases c with c | c
  .rw [decide_eq_true c]; rfl
  .rw [c]; cases decide (x.elem ∈ r.steps.map (·.elem)) <;> rfl
 .rw [if_neg c]
  have c1 : x.elem ∉ r.steps.map (·.elem) := fun h => c (.inl h)
  have c2 : seenB vis x = false := by cases hs : seenB vis x with | false => rfl | true => exact absurd (.inr hs) c
  rw [decide_eq_false c1, c2]
  simp only [cond_false, Option.bind_some, net_Reads hn]
  by_cases k1 : 0 <= readsP p x /\ p.hard = false
  .rw [if_pos k1, decide_eq_true k1.1, k1.2]
   simp only [cond_true, Bool.not_false, Option.bind_some, contains_int h (show h.length < 1000000 by omega)]
   by_cases m : readsP p x ∈ h
   .rw [decide_eq_true m, if_pos m]; rfl
   .rw [decide_eq_false m, if_neg m]
    simp only [Bool.not_false, cond_true, appI_ok (show h.length + [readsP p x].length <= 4294967296 by simp; omega), Option.bind_some]
  .rw [if_neg k1]
   have eb : (bif decide (0 <= readsP p x) then some (!p.hard) else some false : Option Bool) = some false := by
    by_cases a : 0 <= readsP p x
    .rw [decide_eq_true a]
     cases hp : p.hard with
     | true => rfl
     | false => exact absurd ⟨a, hp⟩ k1
    .rw [decide_eq_false a]; rfl
   simp only [eb, Option.bind_some, cond_false, net_Kind hn]
   by_cases k4 : kindP p x.elem = 4
   .rw [if_pos k4, k4]; rfl
   .rw [if_neg k4]
    have b4 : (kindP p x.elem == 4) = false := beq_eq_false_iff_ne.2 k4
    simp only [b4, cond_false]
    by_cases k2 : kindP p x.elem = 2
    .rw [if_pos k2, k2]
     simp only [beq_self_eq_true, cond_true]
     by_cases f0 : x.fin = 0
     .rw [if_pos f0]
      have bf : (x.fin == 0) = true := by simp [f0]
      simp only [bf, cond_true, tz, Option.bind_some]
      have q1 := pushN_len (p := p) l ⟨x.elem, 2⟩
      cases ht : (takeZ b z x.elem).1 with
      | true => simp only [cond_true, pushN_eq hn l ⟨x.elem, 2⟩ (by omega), Option.bind_some, pushN_eq hn (pushN p l ⟨x.elem, 2⟩) ⟨x.elem, 1⟩ (by omega), if_true]
      | false => simp only [cond_false, Option.bind_some, Bool.false_eq_true, if_false]
     .rw [if_neg f0]
      have bf : (x.fin == 0) = false := beq_eq_false_iff_ne.2 f0
      simp only [bf, cond_false, contains_need r.needs (show r.needs.length < 1000000 by omega), contains_need g (show g.length < 1000000 by omega), Option.bind_some]
      have en : (bif decide ((⟨x.elem, x.fin⟩ : Need) ∈ r.needs) then some true else some (decide ((⟨x.elem, x.fin⟩ : Need) ∈ g)) : Option Bool) = some (decide ((⟨x.elem, x.fin⟩ : Need) ∈ r.needs \/ (⟨x.elem, x.fin⟩ : Need) ∈ g)) := by
       by_cases a : (⟨x.elem, x.fin⟩ : Need) ∈ r.needs
       .simp [a]
       .simp [a]
      simp only [en, Option.bind_some]
      by_cases a : (⟨x.elem, x.fin⟩ : Need) ∈ r.needs \/ (⟨x.elem, x.fin⟩ : Need) ∈ g
      .rw [if_pos a, decide_eq_true a]
       simp only [cond_true, tz, Option.bind_some]
       cases ht : (takeZ b z x.elem).1 with
       | true => simp only [cond_true, pushN_eq hn l ⟨x.elem, 0⟩ (by omega), Option.bind_some, if_true]
       | false => simp only [cond_false, Option.bind_some, Bool.false_eq_true, if_false]
      .rw [if_neg a, decide_eq_false a]
       simp only [cond_false]
       by_cases m : (⟨x.elem, wi64 (3 - x.fin)⟩ : Need) ∈ g
       .rw [decide_eq_true m, if_pos m]; rfl
       .rw [decide_eq_false m, if_neg m]
        simp only [Bool.not_false, cond_true, appI_ok (show g.length + [(⟨x.elem, wi64 (3 - x.fin)⟩ : Need)].length <= 4294967296 by simp; omega), Option.bind_some]
    .rw [if_neg k2]
     have b2 : (kindP p x.elem == 2) = false := beq_eq_false_iff_ne.2 k2
     simp only [b2, cond_false, q_48, net_Through hn, Option.bind_some]
     cases ht : throughP p x.elem x.fin 0 with
     | none => rfl
     | some o =>
      simp only [Option.isSome_some, cond_true, Option.getD_some, tz, Option.bind_some]
      cases htz : (takeZ b z x.elem).1 with
      | true => simp only [cond_true, pushN_eq hn l ⟨x.elem, o⟩ (by omega), Option.bind_some, if_true]
      | false => simp only [cond_false, Bool.false_eq_true, if_false]
end
end Go.E
/- Plain Lean: the flank of a road: what holds of zone, guards and holds; the search ends (laws FlankAgain, FlankApart). No condition. -/
namespace Go.E
open Go
section
variable {p : Plan} {n : Net} {r : Road}
structure ZOK (p : Plan) (st : List Step) (z : List Int) : Prop where
 len : z.length <= 12
 nd : z.Nodup
 own : ∀ e ∈ z, e ∉ st.map (·.elem) /\ kindP p e ≠ 4
 rng : ∀ e ∈ z, kindP p e ≠ 0
structure GOK (p : Plan) (st : List Step) (g : List Need) : Prop where
 ok : ∀ m ∈ g, m.elem ∉ st.map (·.elem) /\ kindP p m.elem = 2 /\ (m.pos = 1 \/ m.pos = 2)
 nd : g.Pairwise (fun a b => a.elem ≠ b.elem)
theorem takeZ_ok {st : List Step} {b : Bool} {z : List Int} {e : Int} (h : ZOK p st z) (h1 : e ∉ st.map (·.elem)) (h2 : kindP p e ≠ 4) (h3 : kindP p e ≠ 0) : ZOK p st (takeZ b z e).2.2 := by
 unfold takeZ
 split
 .exact h
 .rename_i hm
  split
  .exact h
  .rename_i hl
   refine ⟨by simp; omega, ?_, fun a ha => ?_, fun a ha => ?_⟩
   .simp only
    rw [List.nodup_append]
    exact ⟨h.nd, by simp, fun a ha c hc => by simp at hc; subst hc; intro e; subst e; exact hm ha⟩
   .rcases List.mem_append.1 ha with ha | ha
    .exact h.own a ha
    .simp at ha; subst ha; exact ⟨h1, h2⟩
   .rcases List.mem_append.1 ha with ha | ha
    .exact h.rng a ha
    .simp at ha; subst ha; exact h3
theorem next_port {x y : Port} (h : nextP p x = some y) : y ∈ portsP p := nextL_mem h
theorem pushN_mem {l : List Port} {x y : Port} (h : y ∈ pushN p l x) : y ∈ l \/ y ∈ portsP p := by
 unfold pushN at h
 cases hx : nextP p x with
 | none => rw [hx] at h; exact .inl h
 | some z =>
  rw [hx] at h
  rcases List.mem_append.1 h with h | h
  .exact .inl h
  .simp at h; subst h; exact .inr (next_port hx)
structure FI (p : Plan) (st : List Step) (M k : Nat) (vis : List (Port × Bool)) (g : List Need) (z h : List Int) (l : List Port) : Prop where
 zok : ZOK p st z
 gok : GOK p st g
 hold : p.hard = true -> h = []
 port : ∀ x ∈ l, x ∈ portsP p
 lg : g.length <= k
 lh : h.length <= k
 meas : k + l.length + 3 * unv p vis <= M
theorem FI_step (hv : Valid p) {st : List Step} {nd : List Need} {M k : Nat} {b : Bool} {vis : List (Port × Bool)} {g : List Need} {z h : List Int} {l : List Port} {x : Port} (hi : FI p st M k vis g z h (l ++ [x])) {s : FS} (hs : s = fstep p st nd b vis g z h l x) :
  FI p st M (k + 1) s.2.1 s.2.2.1 s.2.2.2.1 s.2.2.2.2.1 s.2.2.2.2.2 := by
 have hm := hi.meas
 simp only [List.length_append, List.length_cons, List.length_nil] at hm
 have hx : x ∈ portsP p := hi.port x (by simp)
 have hl : ∀ y ∈ l, y ∈ portsP p := fun y hy => hi.port y (by simp [hy])
 have hlg := hi.lg
 have hlh := hi.lh
 have hul := unv_le (p := p) (vis := vis) x
 have hhas : hasP p x = true := by
  obtain ⟨i, hi⟩ := List.mem_iff_getElem?.1 hx
  exact hv.join.has i x hi
 unfold fstep at hs
 by_cases c : x.elem ∈ st.map (·.elem) \/ seenB vis x = true
 .rw [if_pos c] at hs
  subst hs
  exact ⟨hi.zok, hi.gok, hi.hold, hl, by dsimp only; omega, by dsimp only; omega, by dsimp only; omega⟩
 .rw [if_neg c] at hs
  have c1 : x.elem ∉ st.map (·.elem) := fun h => c (.inl h)
  have c2 : seenB vis x = false := by cases hs : seenB vis x with | false => rfl | true => exact absurd (.inr hs) c
  have hlt := unv_lt hx c2
  by_cases k1 : 0 <= readsP p x /\ p.hard = false
  .rw [if_pos k1] at hs
   subst hs
   refine ⟨hi.zok, hi.gok, fun hh => (by rw [k1.2] at hh; cases hh), hl, by dsimp only; omega, ?_, by dsimp only; omega⟩
   dsimp only
   split
   .omega
   .simp; omega
  .rw [if_neg k1] at hs
   by_cases k4 : kindP p x.elem = 4
   .rw [if_pos k4] at hs
    subst hs
    exact ⟨hi.zok, hi.gok, hi.hold, hl, by dsimp only; omega, by dsimp only; omega, by dsimp only; omega⟩
   .rw [if_neg k4] at hs
    have k0 : kindP p x.elem ≠ 0 := fun e => by
     obtain ⟨f1, f2, f3⟩ := hasP_fin hhas
     rw [e] at f3
     simp [endsF] at f3
     omega
    have hz := takeZ_ok (b := b) hi.zok c1 k4 k0
    have p1 : ∀ y, (pushN p l y).length <= l.length + 1 := fun y => pushN_len l y
    by_cases k2 : kindP p x.elem = 2
    .rw [if_pos k2] at hs
     by_cases f0 : x.fin = 0
     .rw [if_pos f0] at hs
      subst hs
      refine ⟨hz, hi.gok, hi.hold, fun y hy => ?_, by dsimp only; omega, by dsimp only; omega, ?_⟩
      .dsimp only at hy
       split at hy
       .rcases pushN_mem hy with hy | hy
        .rcases pushN_mem hy with hy | hy
         .exact hl y hy
         .exact hy
        .exact hy
       .exact hl y hy
      .dsimp only
       have q1 := p1 ⟨x.elem, 2⟩
       have q2 := pushN_len (p := p) (pushN p l ⟨x.elem, 2⟩) ⟨x.elem, 1⟩
       split <;> omega
     .rw [if_neg f0] at hs
      by_cases a : (⟨x.elem, x.fin⟩ : Need) ∈ nd \/ (⟨x.elem, x.fin⟩ : Need) ∈ g
      .rw [if_pos a] at hs
       subst hs
       refine ⟨hz, hi.gok, hi.hold, fun y hy => ?_, by dsimp only; omega, by dsimp only; omega, ?_⟩
       .dsimp only at hy
        split at hy
        .rcases pushN_mem hy with hy | hy
         .exact hl y hy
         .exact hy
        .exact hl y hy
       .dsimp only
        have q1 := p1 ⟨x.elem, 0⟩
        split <;> omega
      .rw [if_neg a] at hs
       subst hs
       obtain ⟨f1, f2, f3⟩ := hasP_fin hhas
       rw [k2] at f3
       simp [endsF] at f3
       have hw : wi64 (3 - x.fin) = 3 - x.fin := by rw [wi64_id] <;> omega
       refine ⟨hi.zok, ?_, hi.hold, hl, ?_, by dsimp only; omega, by dsimp only; omega⟩
       .dsimp only
        split
        .exact hi.gok
        .rename_i hng
         refine ⟨fun m hm => ?_, ?_⟩
         .rcases List.mem_append.1 hm with hm | hm
          .exact hi.gok.ok m hm
          .simp at hm; subst hm; exact ⟨c1, k2, by rw [hw]; simp only; omega⟩
         .rw [List.pairwise_append]
          refine ⟨hi.gok.nd, by simp, fun m hm q hq => ?_⟩
          simp at hq
          subst hq
          intro he
          simp only at he
          obtain ⟨_, _, hp⟩ := hi.gok.ok m hm
          have e1 : m = ⟨x.elem, m.pos⟩ := by cases m; simp only at he; subst he; rfl
          by_cases e : m.pos = x.fin
          .rw [e] at e1; rw [e1] at hm; exact a (.inr hm)
          .have : m.pos = 3 - x.fin := by omega
           rw [this, <- hw] at e1; rw [e1] at hm; exact hng hm
       .dsimp only
        split
        .omega
        .simp; omega
    .rw [if_neg k2] at hs
     cases ht : throughP p x.elem x.fin 0 with
     | none =>
      rw [ht] at hs
      subst hs
      exact ⟨hi.zok, hi.gok, hi.hold, hl, by dsimp only; omega, by dsimp only; omega, by dsimp only; omega⟩
     | some o =>
      rw [ht] at hs
      subst hs
      refine ⟨hz, hi.gok, hi.hold, fun y hy => ?_, by dsimp only; omega, by dsimp only; omega, ?_⟩
      .dsimp only at hy
       split at hy
       .rcases pushN_mem hy with hy | hy
        .exact hl y hy
        .exact hy
       .exact hl y hy
      .dsimp only
       have q1 := p1 ⟨x.elem, o⟩
       split <;> omega
theorem flank_total (hv : Valid p) (hn : NetOf p n) (h1 : r.steps.length <= 12) (h2 : r.needs.length <= 1000) : ∃ g z h b, q_1z n r = some ⟨r.frm, r.to, r.fin, r.steps, r.needs, g, z, h, b⟩ /\ ZOK p r.steps z /\ GOK p r.steps g /\ (p.hard = true -> h = []) /\ g.length <= 700 /\ h.length <= 700 := by
 have hj := hv.nj
 have hp := portsF_len (p := p) r.steps
 rw [flank_start hv hn h1 h2]
 obtain ⟨R, e1, g, z, h, b, rfl, e2⟩ := loop_up (step := q_s n r r.steps r.needs p) (Post := fun R => ∃ g z h b, R = (⟨r.frm, r.to, r.fin, r.steps, r.needs, g, z, h, b⟩ : Road) /\ ZOK p r.steps z /\ GOK p r.steps g /\ (p.hard = true -> h = []) /\ g.length <= 700 /\ h.length <= 700)
  (fun k s => FI p r.steps 700 k s.2.1 s.2.2.1 s.2.2.2.1 s.2.2.2.2.1 s.2.2.2.2.2) 700 (s := (false, [], [], [], [], (startQ p (portsF p r.steps)).reverse)) (by
   rintro k ⟨b, vis, g, z, h, l⟩ hi
   have hm := hi.meas
   have hlg := hi.lg
   have hlh := hi.lh
   have hzl := hi.zok.len
   dsimp only at hm hlg hlh hzl hi
   rcases List.eq_nil_or_concat l with rfl | ⟨l', x, rfl⟩
   .left
    exact ⟨_, rfl, g, z, h, b, rfl, hi.zok, hi.gok, hi.hold, by omega, by omega⟩
   .right
    rw [List.concat_eq_append] at hi hm ⊢
    simp only [List.length_append, List.length_cons, List.length_nil] at hm
    refine ⟨by omega, _, flank_step hn h1 h2 b vis g z h l' x (by omega) (by omega) (by omega) (by omega), FI_step hv hi rfl⟩) (by
   refine ⟨⟨by simp, by simp, by simp, by simp⟩, ⟨by simp, by simp⟩, fun _ => rfl, fun y hy => ?_, by simp, by simp, ?_⟩
   .have := List.mem_reverse.1 hy
    obtain ⟨x, hx, rfl⟩ := List.mem_map.1 this
    obtain ⟨y, hy⟩ := ports_joined hx
    rw [hy]
    exact next_port hy
   .have h3 : unv p [] <= (portsP p).length := List.length_filter_le _ _
    have h4 : (portsP p).length = 2 * p.joins.length := flat_len2 _
    simp only [startQ, List.length_reverse, List.length_map]
    omega)
 exact ⟨g, z, h, b, e1, e2⟩
end
end Go.E
/- Plain Lean: zone, guards and holds of a road's flank (law FlankApart). No condition. -/
namespace Go.E
open Go
section
variable {p : Plan} {n : Net} {r : Road}
end
end Go.E
/- Plain Lean: one call of the document's search for the flank, in a clean form. No condition. -/
namespace Go.E
open Go
theorem hasNeed_eq (l : List Need) (hl : l.length < 1000000) (x : Need) : q_1t l x = some (decide (x ∈ l)) := by
 unfold q_1t
 obtain ⟨b, h1, h2⟩ := loop_ix (l := l) (step := q_v l x) (Post := fun b => b = decide (x ∈ l)) (fun _ y => y ≠ x) (fun good => ⟨false, by simp [q_v], by
   symm; rw [decide_eq_false_iff_not]; intro hm
   obtain ⟨i, hi⟩ := List.getElem?_of_mem hm
   exact good i x hi rfl⟩) (fun i a ha _ => by
   have := ilt ha
   by_cases e : a = x
   .exact .inl ⟨true, by simp only [q_v, dlt ha, cond_true, idx_nat, ha, Option.bind_some, e, beq_self_eq_true], by symm; rw [decide_eq_true_iff]; subst e; exact List.mem_of_getElem? ha⟩
   .have : (a == x) = false := beq_eq_false_iff_ne.2 e
    exact .inr ⟨by simp only [q_v, dlt ha, cond_true, idx_nat, ha, Option.bind_some, this, cond_false, wi64_succ (show i < 1000000000 by omega)], e⟩)
 rw [h1, h2]
section
variable {p : Plan} {n : Net} {r : Road}
end
end Go.E
/- Plain Lean: the document's search for the flank and the program's loop: one call is as good as one port on the stack. No condition. -/
namespace Go.E
open Go
section
variable {p : Plan} {n : Net} {r : Road}
theorem through_free {x : Port} (h : hasP p x = true) (k2 : kindP p x.elem ≠ 2) (k4 : kindP p x.elem ≠ 4) : ∃ o, throughP p x.elem x.fin 0 = some o := by
 obtain ⟨f1, f2, f3⟩ := hasP_fin h
 have h' : hasP p ⟨x.elem, x.fin⟩ = true := h
 unfold throughP outsP
 rw [h']
 simp only [if_true]
 by_cases k1 : kindP p x.elem = 1
 .rw [if_pos k1]; exact ⟨_, by simp [throughL]; rfl⟩
 .by_cases k3 : kindP p x.elem = 3
  .rw [if_neg k1, if_pos k3]; exact ⟨_, by simp [throughL]; rfl⟩
  .have : endsF (kindP p x.elem) = 0 := by unfold endsF; rw [if_neg k1, if_neg k2, if_neg k3, if_neg k4]
   omega
end
end Go.E
/- Plain Lean: the flank of a road: the document's answer and the program's are one (law FlankOfs). No condition. -/
namespace Go.E
open Go
section
variable {p : Plan} {n : Net} {r : Road}
end
end Go.E
/- Plain Lean: whether a road is ready, by the program and by the document (law FlankReady). No condition. -/
namespace Go.E
open Go
theorem any_loop {α β : Type} {l : List α} {step : Int -> Option (Int ⊕ β)} (bad : α -> Bool) (x : β) (fin : Option β) (h0 : step (l.length : Int) = fin.map .inr)
  (h1 : ∀ (i : Nat) a, l[i]? = some a -> step (i : Int) = if bad a = true then some (.inr x) else some (.inl ((i + 1 : Nat) : Int))) : loopR step 0 = if l.any bad = true then some x else fin := by
 refine loop_list (γ := Unit) l (fun i _ => (i : Int)) (fun _ _ r => if r.any bad = true then some x else fin) (fun _ => ?_) (fun i c a r ha hi => ?_) ()
 .simpa using h0
 .rw [h1 i a ha]
  cases hb : bad a with
  | true => left; simp [hb]
  | false => right; exact ⟨(), by simp, by simp [hb]⟩
end Go.E
/- Plain Lean: a road that is ready is so no more when one thing is otherwise (law FlankOne). No condition. -/
namespace Go.E
open Go
section
variable {p : Plan} {n : Net} {r : Road}
structure NOK (p : Plan) (st : List Step) (nd : List Need) : Prop where
 ok : ∀ m ∈ nd, m.elem ∈ st.map (·.elem) /\ kindP p m.elem = 2 /\ (m.pos = 1 \/ m.pos = 2)
 nd : nd.Pairwise (fun a b => a.elem ≠ b.elem)
theorem road_NOK {s : Int} (h : r ∈ ofF p s) : NOK p r.steps r.needs := by
 obtain ⟨sg, nd, l, h1, h2, h3, h4, h5, h6, h7⟩ := isF_parts (ofF_road h).1
 have := stepsF_needs (by simp) (by simp) h4
 rw [h7]
 exact ⟨fun m hm => by simpa using this.1 m hm, this.2.1⟩
end
end Go.E
/- Plain Lean: what a road's flank keeps: nobody comes in but from its zone (law FlankKeeps). No condition. -/
namespace Go.E
open Go
section
variable {p : Plan} {n : Net} {r : Road}
def atK (st : List Step) (vis : List (Port × Bool)) (l : List Port) (y : Port) : Prop := y ∈ l \/ seenB vis y = true \/ y.elem ∈ st.map (·.elem)
structure RecK (p : Plan) (nd g : List Need) (z h : List Int) (at_ : Port -> Prop) (x : Port) : Prop where
 held : 0 <= readsP p x /\ p.hard = false -> readsP p x ∈ h
 gate : ¬ (0 <= readsP p x /\ p.hard = false) -> kindP p x.elem ≠ 4
 toe : ¬ (0 <= readsP p x /\ p.hard = false) -> kindP p x.elem = 2 -> x.fin = 0 -> x.elem ∈ z /\ ∀ o, (o = 1 \/ o = 2) -> ∀ y, nextP p ⟨x.elem, o⟩ = some y -> at_ y
 leg : ¬ (0 <= readsP p x /\ p.hard = false) -> kindP p x.elem = 2 -> x.fin ≠ 0 -> (x.elem ∈ z /\ ∀ y, nextP p ⟨x.elem, 0⟩ = some y -> at_ y) \/ (⟨x.elem, wi64 (3 - x.fin)⟩ : Need) ∈ g
 other : ¬ (0 <= readsP p x /\ p.hard = false) -> kindP p x.elem ≠ 2 -> ∀ o, throughP p x.elem x.fin 0 = some o -> x.elem ∈ z /\ ∀ y, nextP p ⟨x.elem, o⟩ = some y -> at_ y
theorem RecK.mono {nd g g' : List Need} {z z' h h' : List Int} {a a' : Port -> Prop} {x : Port} (hk : RecK p nd g z h a x) (hg : ∀ m ∈ g, m ∈ g') (hz : ∀ m ∈ z, m ∈ z') (hh : ∀ m ∈ h, m ∈ h') (ha : ∀ y, a y -> a' y) : RecK p nd g' z' h' a' x :=
 ⟨fun c => hh _ (hk.held c), hk.gate, fun c k f => ⟨hz _ (hk.toe c k f).1, fun o ho y hy => ha _ ((hk.toe c k f).2 o ho y hy)⟩,
  fun c k f => (hk.leg c k f).imp (fun q => ⟨hz _ q.1, fun y hy => ha _ (q.2 y hy)⟩) (hg _), fun c k o ho => ⟨hz _ (hk.other c k o ho).1, fun y hy => ha _ ((hk.other c k o ho).2 y hy)⟩⟩
structure KI (p : Plan) (st : List Step) (nd : List Need) (b : Bool) (vis : List (Port × Bool)) (g : List Need) (z h : List Int) (l : List Port) : Prop where
 seen : b = false -> ∀ x, seenB vis x = true -> RecK p nd g z h (atK st vis l) x
 init : ∀ x y, x ∈ portsF p st -> nextP p x = some y -> atK st vis l y
theorem KI.next {st : List Step} {nd : List Need} {b b' : Bool} {vis vis' : List (Port × Bool)} {g g' : List Need} {z z' h h' : List Int} {l l' : List Port} {x : Port} (hi : KI p st nd b vis g z h (l ++ [x]))
  (hb : b' = false -> b = false) (hv : ∀ y, seenB vis y = true -> seenB vis' y = true) (hv2 : ∀ y, seenB vis' y = true -> seenB vis y = true \/ y = x) (hl : ∀ y ∈ l, y ∈ l') (hx : seenB vis' x = true \/ x.elem ∈ st.map (·.elem))
  (hg : ∀ m ∈ g, m ∈ g') (hz : ∀ m ∈ z, m ∈ z') (hh : ∀ m ∈ h, m ∈ h') (hr : b' = false -> seenB vis x = false -> seenB vis' x = true -> RecK p nd g' z' h' (atK st vis' l') x) : KI p st nd b' vis' g' z' h' l' := by
 have ha : ∀ y, atK st vis (l ++ [x]) y -> atK st vis' l' y := by
  rintro y (hy | hy | hy)
  .rcases List.mem_append.1 hy with hy | hy
   .exact .inl (hl y hy)
   .simp at hy; subst hy; exact .inr hx
  .exact .inr (.inl (hv y hy))
  .exact .inr (.inr hy)
 refine ⟨fun hb' y hy => ?_, fun y q hy hq => ha q (hi.init y q hy hq)⟩
 cases hs : seenB vis y with
 | true => exact (hi.seen (hb hb') y hs).mono hg hz hh ha
 | false =>
  rcases hv2 y hy with hy2 | rfl
  .rw [hs] at hy2; cases hy2
  .exact hr hb' hs hy
end
end Go.E
/- Plain Lean: whether a road's flank keeps all others out, told without an order (KeptG, GuardP), and the program's answer. No condition. -/
namespace Go.E
open Go
def layN (nl : List Need) (e : Int) : Option Int := (nl.find? fun m => m.elem == e).map (·.pos)
def backW (lay : Int -> Option Int) (e : Int) (w : Way) : List Int := if w.pos = 0 \/ lay e = none \/ lay e = some w.pos then [w.out] else []
def backsP (p : Plan) (lay : Int -> Option Int) (x : Port) : List Int := (outsP p x.elem x.fin).flatMap (backW lay x.elem)
def shutG (p : Plan) (holds : List Int) (x : Port) : Prop := p.hard = false /\ 0 <= readsP p x /\ readsP p x ∈ holds
instance (p : Plan) (holds : List Int) (x : Port) : Decidable (shutG p holds x) := by unfold shutG; infer_instance
def goodG (p : Plan) (lay : Int -> Option Int) (zone : List Int) (x : Port) : Prop := kindP p x.elem ≠ 4 /\ (backsP p lay x ≠ [] -> x.elem ∈ zone)
instance (p : Plan) (lay : Int -> Option Int) (zone : List Int) (x : Port) : Decidable (goodG p lay zone x) := by unfold goodG; infer_instance
inductive ArrG (p : Plan) (lay : Int -> Option Int) (holds : List Int) (st : List Step) : Port -> Prop
 | init {x y : Port} : x ∈ portsF p st -> nextP p x = some y -> ArrG p lay holds st y
 | step {x y : Port} {o : Int} : ArrG p lay holds st x -> x.elem ∉ st.map (·.elem) -> ¬ shutG p holds x -> o ∈ backsP p lay x -> nextP p ⟨x.elem, o⟩ = some y -> ArrG p lay holds st y
def KeptG (p : Plan) (lay : Int -> Option Int) (holds zone : List Int) (st : List Step) : Prop := ∀ x, ArrG p lay holds st x -> x.elem ∉ st.map (·.elem) -> ¬ shutG p holds x -> goodG p lay zone x
def consN (nl : List Need) : Prop := ∀ a ∈ nl, ∀ b ∈ nl, a.elem = b.elem -> a.pos = b.pos
structure GuardP (p : Plan) (r : Road) : Prop where
 cons : consN (r.needs ++ r.guards)
 guard : ∀ m ∈ r.guards, kindP p m.elem = 2 /\ (m.pos = 1 \/ m.pos = 2)
 zone : ∀ e ∈ r.zone, 0 <= e /\ e < p.elems.length /\ e ∉ r.steps.map (·.elem)
 hold : ∀ s ∈ r.holds, 0 <= s /\ s < p.signals.length
 kept : KeptG p (layN (r.needs ++ r.guards)) r.holds r.zone r.steps
theorem backsP_len (p : Plan) (lay : Int -> Option Int) (x : Port) : (backsP p lay x).length <= 2 := by
 have h1 := outsP_len p x.elem x.fin
 have h2 := flat_lenB (backW lay x.elem) 1 (outsP p x.elem x.fin) (fun w _ => by unfold backW; split <;> simp)
 unfold backsP
 omega
section
variable {p : Plan} {n : Net} {r : Road} {lay : Int -> Option Int} {holds zone : List Int} {st : List Step}
theorem ArrG.in_ports {x : Port} (h : ArrG p lay holds st x) : x ∈ portsP p := by
 cases h with
 | init _ h2 => exact next_port h2
 | step _ _ _ _ h2 => exact next_port h2
structure GI (p : Plan) (lay : Int -> Option Int) (holds zone : List Int) (st : List Step) (V : Port -> Prop) (q : List Port) : Prop where
 arr : ∀ x ∈ q, ArrG p lay holds st x
 full : ∀ x, V x -> x.elem ∉ st.map (·.elem) -> ¬ shutG p holds x -> goodG p lay zone x /\ ∀ o ∈ backsP p lay x, ∀ y, nextP p ⟨x.elem, o⟩ = some y -> y ∈ q \/ V y
 init : ∀ x y, x ∈ portsF p st -> nextP p x = some y -> y ∈ q \/ V y
theorem GI.done {V : Port -> Prop} (h : GI p lay holds zone st V []) : KeptG p lay holds zone st := by
 have key : ∀ x, ArrG p lay holds st x -> V x := by
  intro x hx
  induction hx with
  | init h1 h2 => exact (h.init _ _ h1 h2).resolve_left (by simp)
  | step _ h2 h3 h4 h5 ih => exact ((h.full _ ih h2 h3).2 _ h4 _ h5).resolve_left (by simp)
 exact fun x hx h1 h2 => (h.full x (key x hx) h1 h2).1
theorem GI.bad {V : Port -> Prop} {x : Port} {q : List Port} (h : GI p lay holds zone st V (x :: q)) (h1 : x.elem ∉ st.map (·.elem)) (h2 : ¬ shutG p holds x) (hb : ¬ goodG p lay zone x) : ¬ KeptG p lay holds zone st :=
 fun hk => hb (hk x (h.arr x (by simp)) h1 h2)
theorem GI.next {V V' : Port -> Prop} {x : Port} {q q' : List Port} (h : GI p lay holds zone st V (x :: q)) (hV : ∀ y, V y -> V' y) (hx : V' x) (hV2 : ∀ y, V' y -> V y \/ y = x) (hq : ∀ y ∈ q, y ∈ q') (hq2 : ∀ y ∈ q', ArrG p lay holds st y)
  (hf : ¬ V x -> x.elem ∉ st.map (·.elem) -> ¬ shutG p holds x -> goodG p lay zone x /\ ∀ o ∈ backsP p lay x, ∀ y, nextP p ⟨x.elem, o⟩ = some y -> y ∈ q' \/ V' y) : GI p lay holds zone st V' q' := by
 have keep : ∀ y, y ∈ x :: q \/ V y -> y ∈ q' \/ V' y := by
  rintro y (hy | hy)
  .rcases List.mem_cons.1 hy with rfl | hy
   .exact .inr hx
   .exact .inl (hq y hy)
  .exact .inr (hV y hy)
 refine ⟨hq2, fun y hy h1 h2 => ?_, fun a b ha hb => keep b (h.init a b ha hb)⟩
 by_cases c : V y
 .have := h.full y c h1 h2
  exact ⟨this.1, fun o ho z hz => keep z (this.2 o ho z hz)⟩
 .rcases hV2 y hy with hy2 | rfl
  .exact absurd hy2 c
  .exact hf c h1 h2
def nextsP (p : Plan) (e : Int) (l : List Int) : List Port := l.flatMap fun o => match nextP p ⟨e, o⟩ with
 | some y => [y]
 | none => []
theorem nextsP_mem {e o : Int} {l : List Int} {y : Port} : y ∈ nextsP p e l ↔ ∃ o ∈ l, nextP p ⟨e, o⟩ = some y := by
 unfold nextsP
 rw [List.mem_flatMap]
 constructor
 .rintro ⟨o, ho, hy⟩
  cases hx : nextP p ⟨e, o⟩ with
  | none => rw [hx] at hy; cases hy
  | some z => rw [hx] at hy; simp at hy; subst hy; exact ⟨o, ho, hx⟩
 .rintro ⟨o, ho, hy⟩
  exact ⟨o, ho, by rw [hy]; simp⟩
theorem nextsP_len (e : Int) (l : List Int) : (nextsP p e l).length <= l.length := by
 have := flat_lenB (fun o => match nextP p ⟨e, o⟩ with | some y => [y] | none => []) 1 l (fun o _ => by split <;> simp)
 unfold nextsP
 omega
theorem GI.go {V V' : Port -> Prop} {x : Port} {q : List Port} (h : GI p lay holds zone st V (x :: q)) (h1 : x.elem ∉ st.map (·.elem)) (h2 : ¬ shutG p holds x) (hg : goodG p lay zone x) (hV : ∀ y, V' y ↔ V y \/ y = x) : GI p lay holds zone st V' (q ++ nextsP p x.elem (backsP p lay x)) := by
 have hx := h.arr x (by simp)
 refine h.next (fun y hy => (hV y).2 (.inl hy)) ((hV x).2 (.inr rfl)) (fun y hy => (hV y).1 hy) (fun y hy => List.mem_append_left _ hy) (fun y hy => ?_) (fun _ _ _ => ⟨hg, fun o ho y hy => .inl (List.mem_append_right _ (nextsP_mem (o := o) |>.2 ⟨o, ho, hy⟩))⟩)
 rcases List.mem_append.1 hy with hy | hy
 .exact h.arr y (by simp [hy])
 .obtain ⟨o, ho, hy⟩ := (nextsP_mem (o := 0)).1 hy
  exact .step hx h1 h2 ho hy
theorem backs_eq (hn : NetOf p n) (x : Port) (m : List (Int × Int)) (hm : ∀ e, assoc m e = lay e) : q_34 n x m = some (backsP p lay x) := by
 unfold q_34 backsP
 have hl := outsP_len p x.elem x.fin
 simp only [net_Outs hn, Option.bind_some]
 generalize outsP p x.elem x.fin = L at hl
 have := flat_loop 0 (l := L) (backW lay x.elem) (fun w => by unfold backW; split <;> simp) (by omega) (step := q_1j x m L) (fin := fun o => o) (fun o => by simp only [q_1j, dge, cond_false]) (fun i w o ha hb => by
  have := ilt ha
  simp only [q_1j, dlt ha, cond_true, idx_nat, ha, Option.bind_some, hm, wi64_succ (show i < 1000000000 by omega)]
  unfold backW
  have ap := appI_ok (show o.length + [w.out].length <= 4294967296 by simp; omega)
  by_cases c : w.pos = 0
  .simp [c, ap]
  .have cb : (w.pos == 0) = false := beq_eq_false_iff_ne.2 c
   cases hy : lay x.elem with
   | none => simp [c, cb, ap]
   | some q =>
    by_cases d : w.pos = q
    .subst d; simp [c, cb, ap]
    .have db : (w.pos == q) = false := beq_eq_false_iff_ne.2 d
     have de : ¬ q = w.pos := fun h => d h.symm
     simp [c, cb, db, de]) [] (by simp)
 simpa using this
theorem Guarded_l5 (hn : NetOf p n) (s : List Port × List (Port × Bool)) (x : Port) (l : List Int) (hl : l.length <= 10) (q : List Port) (hq : q.length <= 1000) : loopR (q_i n s x l) (0, q) = some (.inl (q ++ nextsP p x.elem l, aput x true s.2)) := by
 unfold nextsP
 exact flat_loop 1000 (l := l) (fun o => match nextP p ⟨x.elem, o⟩ with | some y => [y] | none => []) (fun o => by split <;> simp) (by omega) (step := q_i n s x l) (fin := fun o => (Sum.inl (o, aput x true s.2) : (List Port × List (Port × Bool)) ⊕ Bool)) (fun o => by simp only [q_i, dge, cond_false]) (fun i a o ha hb => by
  have := ilt ha
  simp only [q_i, dlt ha, cond_true, idx_nat, ha, Option.bind_some, net_Next hn, wi64_succ (show i < 1000000000 by omega)]
  cases nextP p ⟨x.elem, a⟩ with
  | none => simp
  | some y => simp [appI_ok (show o.length + [y].length <= 4294967296 by simp; omega)]) q hq
theorem Guarded_round (hn : NetOf p n) (h1 : r.steps.length <= 1000) (h2 : r.zone.length <= 1000) (h3 : r.holds.length <= 1000) (y3 : List (Int × Int) × Bool) (hm : ∀ e, assoc y3.1 e = lay e) (x : Port) (q : List Port) (hq : q.length <= 1000) (vis : List (Port × Bool)) :
  q_8 n r y3 p (x :: q, vis) = some (if seenB vis x = true \/ x.elem ∈ r.steps.map (·.elem) \/ shutG p r.holds x then .inl (q, vis) else if goodG p lay r.zone x then .inl (q ++ nextsP p x.elem (backsP p lay x), aput x true vis) else .inr false) := by
 have d : decide ((0 : Int) < (((x :: q).length : Nat) : Int)) = true := by simp
 have e0 : idx (x :: q) 0 = some x := rfl
 have vb : (assoc vis x).getD false = seenB vis x := rfl
 have es : (bif !p.hard then (q_2 n x).bind fun y2018 => bif decide (0 <= y2018) then (q_2 n x).bind fun y2021 => (q_0 r.holds y2021).bind fun y2023 => some y2023 else some false else some false : Option Bool) = some (decide (shutG p r.holds x)) := by
  unfold shutG
  simp only [net_Reads hn, Option.bind_some, contains_int r.holds (show r.holds.length < 1000000 by omega)]
  by_cases hh : p.hard = true
  .simp [hh]
  .have hf : p.hard = false := by simpa using hh
   by_cases c : 0 <= readsP p x
   .simp [hf, c]
   .simp [hf, c]
 have eb : (bif seenB vis x then some true else (q_20 r x.elem).bind fun y2013 => bif y2013 then some true else (bif !p.hard then (q_2 n x).bind fun y2018 => bif decide (0 <= y2018) then (q_2 n x).bind fun y2021 => (q_0 r.holds y2021).bind fun y2023 => some y2023 else some false else some false) : Option Bool) = some (decide (seenB vis x = true \/ x.elem ∈ r.steps.map (·.elem) \/ shutG p r.holds x)) := by
  rw [es]
  cases hs : seenB vis x with
  | true => simp
  | false =>
   simp only [cond_false, Own_eq r (show r.steps.length < 1000000 by omega), Option.bind_some]
   by_cases c : x.elem ∈ r.steps.map (·.elem)
   .rw [decide_eq_true c]; simp only [cond_true, c, true_or, or_true, decide_true]
   .rw [decide_eq_false c]; simp only [cond_false, c, false_or, Bool.false_eq_true]
 unfold q_8
 simp only [d, cond_true, e0, slO_tail, Option.bind_some, vb]
 rw [eb]
 simp only [Option.bind_some]
 by_cases c : seenB vis x = true \/ x.elem ∈ r.steps.map (·.elem) \/ shutG p r.holds x
 .rw [if_pos c, decide_eq_true c]; rfl
 .rw [if_neg c, decide_eq_false c]
  simp only [cond_false, net_Kind hn, Option.bind_some, backs_eq hn x y3.1 hm, contains_int r.zone (show r.zone.length < 1000000 by omega)]
  have hb := backsP_len p lay x
  by_cases k4 : kindP p x.elem = 4
  .have : ¬ goodG p lay r.zone x := fun h => h.1 k4
   rw [if_neg this, k4]; rfl
  .have b4 : (kindP p x.elem == 4) = false := beq_eq_false_iff_ne.2 k4
   simp only [b4, cond_false]
   by_cases hg : goodG p lay r.zone x
   .rw [if_pos hg]
    have : (bif decide ((0 : Int) < ((backsP p lay x).length : Int)) then some (!decide (x.elem ∈ r.zone)) else some false : Option Bool) = some false := by
     by_cases hl : backsP p lay x = []
     .simp [hl]
     .have := hg.2 hl
      simp [this]
    rw [this]
    simp only [Option.bind_some, cond_false]
    exact Guarded_l5 hn _ x _ (by omega) q hq
   .rw [if_neg hg]
    have : (bif decide ((0 : Int) < ((backsP p lay x).length : Int)) then some (!decide (x.elem ∈ r.zone)) else some false : Option Bool) = some true := by
     have hl : backsP p lay x ≠ [] := fun h => hg ⟨k4, fun h2 => absurd h h2⟩
     have hz : x.elem ∉ r.zone := fun h => hg ⟨k4, fun _ => h⟩
     have := List.length_pos_iff.2 hl
     have hd : decide ((0 : Int) < ((backsP p lay x).length : Int)) = true := decide_eq_true (by omega)
     rw [hd, decide_eq_false hz]; rfl
    rw [this]; rfl
theorem start_ports (l : List Step) : ∀ y ∈ startQ p (portsF p l), ∃ x ∈ portsF p l, nextP p x = some y := fun y hy => by
 obtain ⟨x, hx, rfl⟩ := List.mem_map.1 hy
 obtain ⟨y, h⟩ := ports_joined hx
 exact ⟨x, hx, by rw [h]; rfl⟩
theorem start_mem {l : List Step} {x y : Port} (hx : x ∈ portsF p l) (hy : nextP p x = some y) : y ∈ startQ p (portsF p l) := List.mem_map.2 ⟨x, hx, by rw [hy]; rfl⟩
theorem Guarded_search (hv : Valid p) (hn : NetOf p n) (h1 : r.steps.length <= 12) (h2 : r.zone.length <= 1000) (h3 : r.holds.length <= 1000) (y3 : List (Int × Int) × Bool) (hm : ∀ e, assoc y3.1 e = lay e) :
  ∃ b, loopR (q_8 n r y3 p) (startQ p (portsF p r.steps), []) = some b /\ (b = true ↔ KeptG p lay r.holds r.zone r.steps) := by
 have hj := hv.nj
 have hp := portsF_len (p := p) r.steps
 have h4 : (portsP p).length = 2 * p.joins.length := flat_len2 _
 refine loop_up (step := q_8 n r y3 p) (Post := fun b => b = true ↔ KeptG p lay r.holds r.zone r.steps)
  (fun k s => GI p lay r.holds r.zone r.steps (fun y => seenB s.2 y = true \/ y.elem ∈ r.steps.map (·.elem) \/ shutG p r.holds y) s.1 /\ k + s.1.length + 3 * unv p s.2 <= 700) 700 ?_ ?_
 .rintro k ⟨q, vis⟩ ⟨hi, hms⟩
  dsimp only at hi hms
  cases q with
  | nil => exact .inl ⟨true, by simp [q_8], fun _ => hi.done, fun _ => rfl⟩
  | cons x q =>
   simp only [List.length_cons] at hms
   rw [Guarded_round (lay := lay) hn (by omega) h2 h3 y3 hm x q (by omega) vis]
   by_cases c : seenB vis x = true \/ x.elem ∈ r.steps.map (·.elem) \/ shutG p r.holds x
   .rw [if_pos c]
    refine .inr ⟨by omega, _, rfl, hi.next (fun _ h => h) c (fun _ h => .inl h) (fun _ h => h) (fun y hy => hi.arr y (by simp [hy])) fun q => absurd c q, by dsimp only; omega⟩
   .rw [if_neg c]
    have c1 : x.elem ∉ r.steps.map (·.elem) := fun h => c (.inr (.inl h))
    have c2 : ¬ shutG p r.holds x := fun h => c (.inr (.inr h))
    have c3 : seenB vis x = false := by cases hs : seenB vis x with | false => rfl | true => exact absurd (.inl hs) c
    by_cases hg : goodG p lay r.zone x
    .rw [if_pos hg]
     have hx := (hi.arr x (by simp)).in_ports
     have hlt := unv_lt hx c3
     have hb := backsP_len p lay x
     have hnl := nextsP_len (p := p) x.elem (backsP p lay x)
     refine .inr ⟨by omega, _, rfl, hi.go c1 c2 hg fun y => ?_, by simp only [List.length_append]; omega⟩
     dsimp only
     rw [seenB_aput]
     constructor
     .rintro ((h | h) | h)
      .exact .inr h
      .exact .inl (.inl h)
      .exact .inl (.inr h)
     .rintro ((h | h) | h)
      .exact .inl (.inr h)
      .exact .inr h
      .exact .inl (.inl h)
    .rw [if_neg hg]
     exact .inl ⟨false, rfl, fun h => (by cases h), fun h => absurd h (hi.bad c1 c2 hg)⟩
 .refine ⟨⟨fun y hy => ?_, fun x hx h1 h2 => ?_, fun x y hx hy => .inl (start_mem hx hy)⟩, ?_⟩
  .obtain ⟨x, hx, hy⟩ := start_ports r.steps y hy
   exact .init hx hy
  .rcases hx with h | h | h
   .simp [seenB, assoc] at h
   .exact absurd h h1
   .exact absurd h h2
  .have h3 : unv p [] <= (portsP p).length := List.length_filter_le _ _
   simp only [startQ, List.length_map]
   omega
end
end Go.E
/- Plain Lean: a road that is guarded keeps all out, whatever way other points lie; what a flank keeps is guarded. No condition. -/
namespace Go.E
open Go
theorem layN_none {nl : List Need} {e : Int} : layN nl e = none ↔ ∀ m ∈ nl, m.elem ≠ e := by
 unfold layN
 rw [Option.map_eq_none_iff, List.find?_eq_none]
 simp only [beq_iff_eq]
theorem layN_mem {nl : List Need} {e q : Int} (h : layN nl e = some q) : (⟨e, q⟩ : Need) ∈ nl := by
 unfold layN at h
 obtain ⟨m, hm, rfl⟩ := Option.map_eq_some_iff.1 h
 have h1 := List.mem_of_find?_eq_some hm
 have h2 := List.find?_some hm
 simp only [beq_iff_eq] at h2
 subst h2
 exact h1
theorem layN_some {nl : List Need} (hc : consN nl) {m : Need} (hm : m ∈ nl) : layN nl m.elem = some m.pos := by
 cases h : layN nl m.elem with
 | none => exact absurd rfl (layN_none.1 h m hm)
 | some q => rw [hc m hm _ (layN_mem h) rfl]
section
variable {p : Plan} {n : Net} {r : Road} {lay : Int -> Option Int} {holds zone : List Int} {st : List Step} {lie : List Int} {shut : List Bool}
end
end Go.E
/- Plain Lean: whether a road is guarded: the program's answer and the document's are one. No condition. -/
namespace Go.E
open Go
def okG (p : Plan) (m : Need) : Prop := kindP p m.elem = 2 /\ (m.pos = 1 \/ m.pos = 2)
instance (p : Plan) (m : Need) : Decidable (okG p m) := by unfold okG; infer_instance
theorem layN_snoc (l : List Need) (a : Need) (e : Int) : layN (l ++ [a]) e = match layN l e with | some q => some q | none => if a.elem = e then some a.pos else none := by
 unfold layN
 rw [List.find?_append]
 cases h : List.find? (fun m => m.elem == e) l with
 | some q => rfl
 | none =>
  by_cases c : a.elem = e
  .simp [c]
  .simp [c]
theorem consN_snoc {l : List Need} {a : Need} (h : consN l) (ha : ∀ q, layN l a.elem = some q -> q = a.pos) : consN (l ++ [a]) := by
 intro x hx y hy e
 rcases List.mem_append.1 hx with hx1 | hx1
 .rcases List.mem_append.1 hy with hy1 | hy1
  .exact h x hx1 y hy1 e
  .rw [List.mem_singleton.1 hy1] at e ⊢
   exact ha _ (by rw [<- e]; exact layN_some h hx1)
 .rw [List.mem_singleton.1 hx1] at e ⊢
  rcases List.mem_append.1 hy with hy1 | hy1
  .exact (ha _ (by rw [e]; exact layN_some h hy1)).symm
  .rw [List.mem_singleton.1 hy1]
section
variable {p : Plan} {n : Net} {r : Road}
theorem lying_spec (hn : NetOf p n) (r : Road) (h1 : r.needs.length <= 1000) (h2 : r.guards.length <= 1000) :
  ∃ t : List (Int × Int) × Bool, q_33 n r = some t /\ ((t.2 = true /\ consN (r.needs ++ r.guards) /\ (∀ m ∈ r.guards, okG p m) /\ ∀ e, assoc t.1 e = layN (r.needs ++ r.guards) e) \/ (t.2 = false /\ ¬ (consN (r.needs ++ r.guards) /\ ∀ m ∈ r.guards, okG p m))) := by
 unfold q_33
 have e1 : q_6 r.needs = some r.needs := clone_eq _ (by omega)
 simp only [e1, Option.bind_some, appI_ok (show r.needs.length + r.guards.length <= 4294967296 by omega)]
 have hg : ∀ i m, r.needs.length <= i -> (r.needs ++ r.guards)[i]? = some m -> m ∈ r.guards := fun i m hi hm => by
  rw [List.getElem?_append_right hi] at hm
  exact List.mem_of_getElem? hm
 have hg2 : ∀ m ∈ r.guards, ∃ i, r.needs.length <= i /\ (r.needs ++ r.guards)[i]? = some m := fun m hm => by
  obtain ⟨i, hi⟩ := List.mem_iff_getElem?.1 hm
  exact ⟨r.needs.length + i, by omega, by rw [List.getElem?_append_right (by omega), Nat.add_sub_cancel_left]; exact hi⟩
 have hlen : (r.needs ++ r.guards).length <= 2000 := by simp; omega
 generalize r.needs ++ r.guards = L at hg hg2 hlen
 refine loop_st (l := L) (step := q_t n r L) (Post := fun t => (t.2 = true /\ consN L /\ (∀ m ∈ r.guards, okG p m) /\ ∀ e, assoc t.1 e = layN L e) \/ (t.2 = false /\ ¬ (consN L /\ ∀ m ∈ r.guards, okG p m)))
  (fun i c => consN (L.take i) /\ (∀ k m, r.needs.length <= k -> k < i -> L[k]? = some m -> okG p m) /\ ∀ e, assoc c e = layN (L.take i) e) ?_ ?_ ⟨fun a ha => (by simp at ha), fun k m _ hk => (by omega), fun e => rfl⟩
 .rintro c ⟨i1, i2, i3⟩
  rw [List.take_length] at i1
  refine ⟨(c, true), by simp only [q_t, dge, cond_false], .inl ⟨rfl, i1, fun m hm => ?_, fun e => by rw [i3 e, List.take_length]⟩⟩
  obtain ⟨i, hi, hm⟩ := hg2 m hm
  exact i2 i m hi (ilt hm) hm
 .rintro i a c ha ⟨i1, i2, i3⟩
  have hi := ilt ha
  have w := wi64_succ (show i < 1000000000 by omega)
  have ht : (bif decide ((r.needs.length : Int) <= (i : Int)) then (q_4 n a.elem).bind fun y => bif (y != 2) then some true else bif (a.pos != 1) then some (a.pos != 2) else some false else some false : Option Bool) = some (decide (r.needs.length <= i /\ ¬ okG p a)) := by
   unfold okG
   rw [net_Kind hn]
   by_cases c1 : r.needs.length <= i
   .have d1 : decide ((r.needs.length : Int) <= (i : Int)) = true := decide_eq_true (by omega)
    rw [d1]
    simp only [cond_true, Option.bind_some]
    by_cases c2 : kindP p a.elem = 2
    .have b2 : (kindP p a.elem != 2) = false := by simp [c2]
     rw [b2]
     by_cases c3 : a.pos = 1
     .simp [c1, c2, c3]
     .have b3 : (a.pos != 1) = true := bne_iff_ne.2 c3
      rw [b3]
      by_cases c4 : a.pos = 2
      .simp [c1, c2, c3, c4]
      .have b4 : (a.pos != 2) = true := bne_iff_ne.2 c4
       rw [b4]
       simp [c1, c2, c3, c4]
    .have b2 : (kindP p a.elem != 2) = true := bne_iff_ne.2 c2
     rw [b2]
     simp [c1, c2]
   .have d1 : decide ((r.needs.length : Int) <= (i : Int)) = false := decide_eq_false (by omega)
    rw [d1]; simp [c1]
  have hs : (bif (assoc c a.elem).isSome then some (((assoc c a.elem).getD 0) != a.pos) else some false : Option Bool) = some (match layN (L.take i) a.elem with | some q => q != a.pos | none => false) := by
   rw [i3]
   cases layN (L.take i) a.elem <;> simp
  have hu : q_t n r L ((i : Int), c) = bif decide (r.needs.length <= i /\ ¬ okG p a) then some (.inr ([], false)) else bif (match layN (L.take i) a.elem with | some q => q != a.pos | none => false) then some (.inr ([], false)) else some (.inl (((i + 1 : Nat) : Int), aput a.elem a.pos c)) := by
   simp only [q_t, dlt ha, cond_true, idx_nat, ha, Option.bind_some, w]
   rw [ht]
   simp only [Option.bind_some]
   rw [hs]
   simp only [Option.bind_some]
  rw [hu]
  have htake : L.take (i + 1) = L.take i ++ [a] := by
   rw [List.take_add_one, ha]; rfl
  by_cases c1 : r.needs.length <= i /\ ¬ okG p a
  .rw [decide_eq_true c1]
   exact .inl ⟨_, rfl, .inr ⟨rfl, fun h => c1.2 (h.2 a (hg i a c1.1 ha))⟩⟩
  .rw [decide_eq_false c1]
   cases hy : layN (L.take i) a.elem with
   | none =>
    refine .inr ⟨_, rfl, ?_, fun k m hk hk2 hm => ?_, fun e => ?_⟩
    .rw [htake]; exact consN_snoc i1 fun q hq => by rw [hy] at hq; cases hq
    .by_cases e : k = i
     .subst e; rw [ha] at hm; cases hm; exact Decidable.byContradiction fun h => c1 ⟨hk, h⟩
     .exact i2 k m hk (by omega) hm
    .rw [assoc_aput', htake, layN_snoc, i3]
     by_cases he : e = a.elem
     .subst he; simp [hy]
     .rw [if_neg he]
      have : ¬ a.elem = e := fun h => he h.symm
      rw [if_neg this]
      cases layN (L.take i) e <;> rfl
   | some q =>
    by_cases hq : q = a.pos
    .subst hq
     have : (a.pos != a.pos) = false := by simp
     simp only [this, cond_false]
     refine .inr ⟨_, rfl, ?_, fun k m hk hk2 hm => ?_, fun e => ?_⟩
     .rw [htake]; exact consN_snoc i1 fun q hq => by rw [hy] at hq; cases hq; first | rfl | done
     .by_cases e : k = i
      .subst e; rw [ha] at hm; cases hm; exact Decidable.byContradiction fun h => c1 ⟨hk, h⟩
      .exact i2 k m hk (by omega) hm
     .rw [assoc_aput', htake, layN_snoc, i3]
      by_cases he : e = a.elem
      .subst he; simp [hy]
      .rw [if_neg he]
       have : ¬ a.elem = e := fun h => he h.symm
       rw [if_neg this]
       cases layN (L.take i) e <;> rfl
    .have : (q != a.pos) = true := by simp [hq]
     simp only [this, cond_false, cond_true]
     refine .inl ⟨_, rfl, .inr ⟨rfl, fun h => hq ?_⟩⟩
     have h1 := layN_mem hy
     have h2 : (⟨a.elem, q⟩ : Need) ∈ L := List.mem_of_mem_take h1
     exact h.1 _ h2 a (List.mem_of_getElem? ha) rfl
theorem start_loop {β : Type} {L : List Port} (hL : L.length <= 1000) {step : Int × List Port -> Option ((Int × List Port) ⊕ β)} {fin : List Port -> Option β} (h0 : ∀ q, step ((L.length : Int), q) = (fin q).map .inr)
  (h1 : ∀ (i : Nat) x q, L[i]? = some x -> q.length <= 2000 -> step ((i : Int), q) = some (.inl (((i + 1 : Nat) : Int), q ++ [(nextP p x).getD ⟨0, 0⟩]))) : loopR step ((0 : Int), []) = fin (startQ p L) := by
 have key : ∀ (rest : List Port) (i : Nat) (q : List Port), L.drop i = rest -> i <= L.length -> q.length = i -> loopR step ((i : Int), q) = fin (q ++ startQ p rest) := by
  intro rest
  induction rest with
  | nil =>
   intro i q hd hi hq
   have : i = L.length := by have := congrArg List.length hd; simp at this; omega
   subst this
   rw [loopR_eq, h0]
   simp only [startQ, List.map_nil, List.append_nil]
   cases fin q <;> rfl
  | cons a r ih =>
   intro i q hd hi hq
   have hlt : i < L.length := by have := congrArg List.length hd; simp at this; omega
   have ha : L[i]? = some a := by
    have : (L.drop i)[0]? = some a := by rw [hd]; rfl
    simpa using this
   have hr : L.drop (i + 1) = r := by
    have : (L.drop i).drop 1 = r := by rw [hd]; rfl
    rwa [List.drop_drop] at this
   rw [loopR_inl (h1 i a q ha (by omega)), ih (i + 1) _ hr (by omega) (by simp [hq])]
   simp [startQ]
 simpa using key L 0 [] rfl (Nat.zero_le _) rfl
theorem Guarded_l3 (hn : NetOf p n) (y3 : List (Int × Int) × Bool) (h1 : r.steps.length <= 12) : loopR (q_15 n r y3 p (portsF p r.steps)) (0, []) = loopR (q_8 n r y3 p) (startQ p (portsF p r.steps), []) := by
 have hp := portsF_len (p := p) r.steps
 exact start_loop (L := portsF p r.steps) (by omega) (fin := fun q => loopR (q_8 n r y3 p) (q, [])) (fun q => by simp only [q_15, dge, cond_false]) (fun i x q hx hq => by
  have := ilt hx
  simp only [q_15, dlt hx, cond_true, idx_nat, hx, Option.bind_some, net_Next hn, appI_ok (show q.length + [(nextP p x).getD (⟨0, 0⟩ : Port)].length <= 4294967296 by simp; omega), wi64_succ (show i < 1000000000 by omega)])
theorem Guarded_eq (hv : Valid p) (hn : NetOf p n) (h1 : r.steps.length <= 12) (h2 : r.needs.length <= 1000) (h3 : r.guards.length <= 1000) (h4 : r.zone.length <= 1000) (h5 : r.holds.length <= 1000) : ∃ b, q_m n r = some b /\ (b = true ↔ GuardP p r) := by
 obtain ⟨t, e1, e2⟩ := lying_spec hn r h2 h3
 unfold q_m
 rw [e1]
 simp only [Option.bind_some]
 rcases e2 with ⟨e2, e3, e4, e5⟩ | ⟨e2, e3⟩
 .rw [e2]
  simp only [Bool.not_true, cond_false]
  have e6 : q_d n = some p := by unfold q_d; rw [hn.plan, twin_eq p hv.few]; rfl
  have e7 : q_1r n = some (p.elems.length : Int) := net_Len hn
  have e8 : q_e n = some (p.signals.length : Int) := by unfold q_e; rw [hn.plan]
  obtain ⟨b, e9, e10⟩ := Guarded_search (lay := layN (r.needs ++ r.guards)) hv hn h1 h4 h5 t e5
  have l2 : loopR (q_16 n r t) 0 = if r.holds.any (fun s => !decide (0 <= s /\ s < (p.signals.length : Int))) = true then some false else some b := by
   refine any_loop (l := r.holds) _ false (some b) ?_ fun i s hs => ?_
   .simp only [q_16, dge, cond_false, e6, Option.bind_some, Ports_eq hn r (show r.steps.length <= 1000 by omega)]
    rw [Guarded_l3 hn t h1, e9]
   .have := ilt hs
    simp only [q_16, dlt hs, cond_true, idx_nat, hs, Option.bind_some, e8, wi64_succ (show i < 1000000000 by omega)]
    by_cases c1 : s < 0
    .have c2 : ¬ (0 <= s /\ s < (p.signals.length : Int)) := by omega
     simp [c1, c2]
    .by_cases c2 : (p.signals.length : Int) <= s
     .have c3 : ¬ (0 <= s /\ s < (p.signals.length : Int)) := by omega
      simp [c1, c2, c3]
     .have c3 : (0 <= s /\ s < (p.signals.length : Int)) := by omega
      simp [c1, c2, c3]
  have l1 : loopR (q_17 n r t) 0 = if r.zone.any (fun e => !decide (0 <= e /\ e < (p.elems.length : Int) /\ e ∉ r.steps.map (·.elem))) = true then some false else if r.holds.any (fun s => !decide (0 <= s /\ s < (p.signals.length : Int))) = true then some false else some b := by
   refine any_loop (l := r.zone) _ false _ ?_ fun i e he => ?_
   .simp only [q_17, dge, cond_false]
    rw [l2]
   .have := ilt he
    simp only [q_17, dlt he, cond_true, idx_nat, he, Option.bind_some, e7, Own_eq r (show r.steps.length < 1000000 by omega), wi64_succ (show i < 1000000000 by omega)]
    by_cases c1 : e < 0
    .have c3 : ¬ (0 <= e /\ e < (p.elems.length : Int) /\ e ∉ r.steps.map (·.elem)) := by omega
     rw [decide_eq_true c1, decide_eq_false c3]; rfl
    .rw [decide_eq_false c1]
     by_cases c2 : (p.elems.length : Int) <= e
     .have c3 : ¬ (0 <= e /\ e < (p.elems.length : Int) /\ e ∉ r.steps.map (·.elem)) := by omega
      rw [decide_eq_true c2, decide_eq_false c3]; rfl
     .rw [decide_eq_false c2]
      by_cases c4 : e ∈ r.steps.map (·.elem)
      .have c3 : ¬ (0 <= e /\ e < (p.elems.length : Int) /\ e ∉ r.steps.map (·.elem)) := fun h => h.2.2 c4
       rw [decide_eq_true c4, decide_eq_false c3]; rfl
      .have c3 : (0 <= e /\ e < (p.elems.length : Int) /\ e ∉ r.steps.map (·.elem)) := ⟨by omega, by omega, c4⟩
       rw [decide_eq_false c4, decide_eq_true c3]; rfl
  rw [l1]
  by_cases c1 : r.zone.any (fun e => !decide (0 <= e /\ e < (p.elems.length : Int) /\ e ∉ r.steps.map (·.elem))) = true
  .rw [if_pos c1]
   refine ⟨false, rfl, fun h => (by cases h), fun h => ?_⟩
   obtain ⟨e, he, hb⟩ := List.any_eq_true.1 c1
   have := h.zone e he
   simp only [Bool.not_eq_true', decide_eq_false_iff_not] at hb
   exact absurd this hb
  .rw [if_neg c1]
   by_cases c2 : r.holds.any (fun s => !decide (0 <= s /\ s < (p.signals.length : Int))) = true
   .rw [if_pos c2]
    refine ⟨false, rfl, fun h => (by cases h), fun h => ?_⟩
    obtain ⟨e, he, hb⟩ := List.any_eq_true.1 c2
    have := h.hold e he
    simp only [Bool.not_eq_true', decide_eq_false_iff_not] at hb
    exact absurd this hb
   .rw [if_neg c2]
    refine ⟨b, rfl, fun h => ⟨e3, e4, fun e he => ?_, fun s hs => ?_, e10.1 h⟩, fun h => e10.2 h.kept⟩
    .refine Decidable.byContradiction fun hb => c1 (List.any_eq_true.2 ⟨e, he, ?_⟩)
     simp only [Bool.not_eq_true', decide_eq_false_iff_not]; exact hb
    .refine Decidable.byContradiction fun hb => c2 (List.any_eq_true.2 ⟨s, hs, ?_⟩)
     simp only [Bool.not_eq_true', decide_eq_false_iff_not]; exact hb
 .rw [e2]
  exact ⟨false, rfl, fun h => (by cases h), fun h => absurd ⟨h.cons, h.guard⟩ e3⟩
def crossN (a b : List Need) : Bool := a.any fun m => b.any fun k => m.elem == k.elem && m.pos != k.pos
theorem crossN_true {a b : List Need} : crossN a b = true ↔ ∃ m ∈ a, ∃ k ∈ b, m.elem = k.elem /\ m.pos ≠ k.pos := by
 unfold crossN
 simp only [List.any_eq_true, Bool.and_eq_true, beq_iff_eq, bne_iff_ne]
theorem crossN_false {l : List Need} : crossN l l = false ↔ consN l := by
 rw [<- Bool.not_eq_true, crossN_true]
 constructor
 .intro h a ha b hb e
  exact Decidable.byContradiction fun q => h ⟨a, ha, b, hb, e, q⟩
 .rintro h ⟨a, ha, b, hb, e, q⟩
  exact q (h a ha b hb e)
theorem against_eq (a b : List Need) (ha : a.length < 1000000) (hb : b.length < 1000000) : q_35 a b = some (crossN a b) := by
 unfold q_35 crossN
 have l1 := any_loop (l := a) (step := q_1l a b) (fun m => b.any fun k => m.elem == k.elem && m.pos != k.pos) true (some false) (by simp only [q_1l, dge, cond_false]; rfl) (fun i m hm => by
  have hi := ilt hm
  have l2 := any_loop (l := b) (step := q_1k a b (i : Int)) (fun k => m.elem == k.elem && m.pos != k.pos) (.inr true) (some (.inl ((i + 1 : Nat) : Int))) (by simp only [q_1k, dge, cond_false, wi64_succ (show i < 1000000000 by omega)]; rfl) (fun j k hk => by
   have := ilt hk
   simp only [q_1k, dlt hk, cond_true, idx_nat, hk, hm, Option.bind_some, wi64_succ (show j < 1000000000 by omega)]
   cases (m.elem == k.elem) <;> cases (m.pos != k.pos) <;> rfl)
  simp only [q_1l, dlt hm, cond_true, l2])
 rw [l1]
 cases (a.any fun m => b.any fun k => m.elem == k.elem && m.pos != k.pos) <;> rfl
theorem all_eq (r : Road) (h2 : r.needs.length <= 1000) (h3 : r.guards.length <= 1000) : q_5c r = some (r.needs ++ r.guards) := by
 unfold q_5c
 simp only [appI_ok (show ([] : List Need).length + r.needs.length <= 4294967296 by simp; omega), List.nil_append, Option.bind_some, appI_ok (show r.needs.length + r.guards.length <= 4294967296 by omega)]
theorem kept_l3 (nl : List Need) (hl : nl.length < 1000000) (x : Port) : loopR (q_g nl x) (1, []) = some ((if (⟨x.elem, 2⟩ : Need) ∈ nl then [] else [1]) ++ if (⟨x.elem, 1⟩ : Need) ∈ nl then [] else [2]) := by
 have w1 : wi64 (3 - 1) = 2 := by decide
 have w2 : wi64 (3 - 2) = 1 := by decide
 have w3 : wi64 (1 + 1) = 2 := by decide
 have w4 : wi64 (2 + 1) = 3 := by decide
 have a1 : ∀ o : List Int, o.length <= 2 -> ∀ y, appI o [y] = some (o ++ [y]) := fun o ho y => appI_ok (by simp; omega)
 have s1 : ∀ o : List Int, o.length <= 1 -> q_g nl x (1, o) = some (.inl (2, o ++ if (⟨x.elem, 2⟩ : Need) ∈ nl then [] else [1])) := fun o ho => by
  simp only [q_g, show decide ((1 : Int) <= 2) = true from rfl, cond_true, w1, w3, hasNeed_eq nl hl, Option.bind_some, a1 o (by omega)]
  by_cases c : (⟨x.elem, 2⟩ : Need) ∈ nl <;> simp [c]
 have s2 : ∀ o : List Int, o.length <= 1 -> q_g nl x (2, o) = some (.inl (3, o ++ if (⟨x.elem, 1⟩ : Need) ∈ nl then [] else [2])) := fun o ho => by
  simp only [q_g, show decide ((2 : Int) <= 2) = true from rfl, cond_true, w2, w4, hasNeed_eq nl hl, Option.bind_some, a1 o (by omega)]
  by_cases c : (⟨x.elem, 1⟩ : Need) ∈ nl <;> simp [c]
 have s3 : ∀ o : List Int, q_g nl x (3, o) = some (.inr o) := fun o => by
  simp only [q_g, show decide ((3 : Int) <= 2) = false from rfl, cond_false]
 rw [loopR_inl (s1 [] (by simp)), List.nil_append, loopR_inl (s2 _ (by split <;> simp)), loopR_inr (s3 _)]
theorem backs_leg {nl : List Need} (hc : consN nl) (hp : ∀ m ∈ nl, m.pos = 1 \/ m.pos = 2) {x : Port} (hx : hasP p x = true) (k2 : kindP p x.elem = 2) (f : 0 < x.fin) : backsP p (layN nl) x = if (⟨x.elem, wi64 (3 - x.fin)⟩ : Need) ∈ nl then [] else [0] := by
 obtain ⟨f1, f2, f3⟩ := hasP_fin hx
 have h' : hasP p ⟨x.elem, x.fin⟩ = true := hx
 rw [k2] at f3
 simp [endsF] at f3
 have hw : wi64 (3 - x.fin) = 3 - x.fin := by rw [wi64_id] <;> omega
 have ho : outsP p x.elem x.fin = [⟨0, x.fin⟩] := by
  unfold outsP
  rw [h', if_pos rfl, if_neg (by omega), if_neg (by omega), if_pos k2, if_neg (by omega)]
 unfold backsP backW
 rw [ho, hw]
 simp only [List.flatMap_cons, List.flatMap_nil, List.append_nil]
 cases hy : layN nl x.elem with
 | none =>
  have : (⟨x.elem, 3 - x.fin⟩ : Need) ∉ nl := fun h => layN_none.1 hy _ h rfl
  simp [this]
 | some q =>
  have hm := layN_mem hy
  have hq := hp _ hm
  simp only at hq
  by_cases c : q = x.fin
  .subst c
   have : (⟨x.elem, 3 - x.fin⟩ : Need) ∉ nl := fun h => by
    have := hc _ h _ hm rfl
    simp only at this
    omega
   simp [this]
  .have e : q = 3 - x.fin := by omega
   rw [e] at hm
   have : ¬ (x.fin = 0 \/ (some q = none) \/ some q = some x.fin) := by simp; omega
   rw [if_neg this, if_pos hm]
theorem backs_toe {nl : List Need} (hc : consN nl) (hp : ∀ m ∈ nl, m.pos = 1 \/ m.pos = 2) {x : Port} (hx : hasP p x = true) (k2 : kindP p x.elem = 2) (f : x.fin = 0) : backsP p (layN nl) x = ((if (⟨x.elem, 2⟩ : Need) ∈ nl then [] else [1]) ++ if (⟨x.elem, 1⟩ : Need) ∈ nl then [] else [2]) /\ backsP p (layN nl) x ≠ [] := by
 have h' : hasP p ⟨x.elem, x.fin⟩ = true := hx
 have ho : outsP p x.elem x.fin = [⟨1, 1⟩, ⟨2, 2⟩] := by
  unfold outsP
  rw [h', if_pos rfl, if_neg (by omega), if_neg (by omega), if_pos k2, if_pos f]
 unfold backsP backW
 rw [ho]
 simp only [List.flatMap_cons, List.flatMap_nil, List.append_nil]
 cases hy : layN nl x.elem with
 | none =>
  have n1 : (⟨x.elem, 1⟩ : Need) ∉ nl := fun h => layN_none.1 hy _ h rfl
  have n2 : (⟨x.elem, 2⟩ : Need) ∉ nl := fun h => layN_none.1 hy _ h rfl
  simp [n1, n2]
 | some q =>
  have hm := layN_mem hy
  have hq := hp _ hm
  simp only at hq
  rcases hq with rfl | rfl
  .have n2 : (⟨x.elem, 2⟩ : Need) ∉ nl := fun h => by
    have := hc _ h _ hm rfl
    simp at this
   simp [n2, hm]
  .have n1 : (⟨x.elem, 1⟩ : Need) ∉ nl := fun h => by
    have := hc _ h _ hm rfl
    simp at this
   simp [n1, hm]
theorem backs_free {lay : Int -> Option Int} {x : Port} (hx : hasP p x = true) (k2 : kindP p x.elem ≠ 2) (k4 : kindP p x.elem ≠ 4) : ∃ o, throughP p x.elem x.fin 0 = some o /\ backsP p lay x = [o] := by
 obtain ⟨o, ho⟩ := through_free hx k2 k4
 refine ⟨o, ho, ?_⟩
 obtain ⟨w, hw, hwo, hp⟩ := through_some ho
 have h0 : w.pos = 0 := by rcases hp with h | h <;> exact h
 rcases outs_cases p x.elem x.fin with e | ⟨v, e⟩ | e
 .rw [e] at hw; cases hw
 .unfold backsP backW
  rw [e] at hw ⊢
  simp at hw
  subst hw
  simp [h0, hwo]
 .exfalso
  have : (⟨1, 1⟩ : Way) ∈ outsP p x.elem x.fin := by rw [e]; simp
  exact k2 ((outs_fact this).2.2.2.2.2 (by simp)).1
theorem kept_l4 (hv : Valid p) (x : Port) (met : List Port) (l : List Int) (hl : l.length <= 10) (q : List Port) (hq : q.length <= 1000) : loopR (q_1u p x met l) (0, q) = some (.inl (met, q ++ nextsP p x.elem l)) := by
 have hj : p.joins.length < 1000000 := by have := hv.nj; omega
 unfold nextsP
 exact flat_loop 1000 (l := l) (fun o => match nextP p ⟨x.elem, o⟩ with | some y => [y] | none => []) (fun o => by split <;> simp) (by omega) (step := q_1u p x met l) (fin := fun o => (Sum.inl (met, o) : (List Port × List Port) ⊕ Bool)) (fun o => by simp only [q_1u, dge, cond_false]) (fun i a o ha hb => by
  have := ilt ha
  simp only [q_1u, dlt ha, cond_true, idx_nat, ha, Option.bind_some, g_R6_Next_eq p hj, wi64_succ (show i < 1000000000 by omega)]
  cases nextP p ⟨x.elem, a⟩ with
  | none => simp
  | some y => simp [appI_ok (show o.length + [y].length <= 4294967296 by simp; omega)]) q hq
theorem kept_round (hv : Valid p) (h1 : r.steps.length <= 12) (h2 : r.zone.length <= 1000) (h3 : r.holds.length <= 1000) {nl : List Need} (hl : nl.length <= 3000) (hc : consN nl) (hp : ∀ m ∈ nl, m.pos = 1 \/ m.pos = 2) {x : Port} (hx : hasP p x = true) (q : List Port) (hq : q.length <= 1000) (met : List Port) (hm : met.length <= 1000) :
  q_h p r nl (met, x :: q) = some (if x ∈ met \/ x.elem ∈ r.steps.map (·.elem) then .inl (met, q) else if shutG p r.holds x then .inl (met ++ [x], q) else if goodG p (layN nl) r.zone x then .inl (met ++ [x], q ++ nextsP p x.elem (backsP p (layN nl) x)) else .inr false) := by
 have hs : p.signals.length < 1000000 := by have := hv.few.signals; omega
 have d : decide ((0 : Int) < (((x :: q).length : Nat) : Int)) = true := by simp
 have e0 : idx (x :: q) 0 = some x := rfl
 have eb : (bif decide (x ∈ met) then some true else (q_3t r x.elem).bind fun y => some y : Option Bool) = some (decide (x ∈ met \/ x.elem ∈ r.steps.map (·.elem))) := by
  rw [Own2_eq r (show r.steps.length < 1000000 by omega)]
  by_cases c : x ∈ met
  .rw [decide_eq_true c, decide_eq_true (Or.inl c)]; rfl
  .rw [decide_eq_false c]
   by_cases c2 : x.elem ∈ r.steps.map (·.elem)
   .rw [decide_eq_true c2, decide_eq_true (Or.inr c2)]; rfl
   .rw [decide_eq_false c2, decide_eq_false (fun h => h.elim c c2)]; rfl
 have es : (bif decide (0 <= readsP p x) then bif !p.hard then (q_1s r.holds (readsP p x)).bind fun y => some y else some false else some false : Option Bool) = some (decide (shutG p r.holds x)) := by
  unfold shutG
  rw [In_eq r.holds (show r.holds.length < 1000000 by omega)]
  by_cases c : 0 <= readsP p x
  .by_cases hh : p.hard = true
   .simp [hh, c]
   .have hf : p.hard = false := by simpa using hh
    simp [hf, c]
  .simp [c]
 unfold q_h
 simp only [d, cond_true, e0, slO_tail, Option.bind_some, hasPort_eq met (show met.length < 1000000 by omega)]
 rw [eb]
 simp only [Option.bind_some]
 by_cases c : x ∈ met \/ x.elem ∈ r.steps.map (·.elem)
 .rw [if_pos c, decide_eq_true c]; rfl
 rw [if_neg c, decide_eq_false c]
 simp only [cond_false, appI_ok (show met.length + [x].length <= 4294967296 by simp; omega), Option.bind_some, g_R6_Reads_eq p hs]
 rw [es]
 simp only [Option.bind_some]
 by_cases c2 : shutG p r.holds x
 .rw [if_pos c2, decide_eq_true c2]; rfl
 rw [if_neg c2, decide_eq_false c2]
 simp only [cond_false, g_R6_Kind_eq, Option.bind_some, hasNeed_eq nl (show nl.length < 1000000 by omega), In_eq r.zone (show r.zone.length < 1000000 by omega), R6_From_eq]
 have i0 : idx ([0] : List Int) 0 = some 0 := rfl
 have s0 : ∀ o : Int, setI ([0] : List Int) 0 o = [o] := fun o => rfl
 by_cases k4 : kindP p x.elem = 4
 .have : ¬ goodG p (layN nl) r.zone x := fun h => h.1 k4
  rw [if_neg this, k4]; rfl
 have b4 : (kindP p x.elem == 4) = false := beq_eq_false_iff_ne.2 k4
 by_cases k2 : kindP p x.elem = 2
 .have b2 : (kindP p x.elem == 2) = true := by simp [k2]
  have b2' : (kindP p x.elem != 2) = false := by simp [k2]
  by_cases f : 0 < x.fin
  .have hb := backs_leg hc hp hx k2 f
   have f0 : (x.fin == 0) = false := by simp; omega
   simp only [b2, b2', b4, f, f0, decide_true, cond_true, cond_false, Option.bind_some]
   by_cases hm2 : (⟨x.elem, wi64 (3 - x.fin)⟩ : Need) ∈ nl
   .rw [if_pos hm2] at hb
    have hg : goodG p (layN nl) r.zone x := ⟨k4, fun h => absurd hb h⟩
    rw [if_pos hg, decide_eq_true hm2, hb]
    simp [nextsP]
   .rw [if_neg hm2] at hb
    rw [decide_eq_false hm2]
    simp only [cond_false]
    by_cases hz : x.elem ∈ r.zone
    .have hg : goodG p (layN nl) r.zone x := ⟨k4, fun _ => hz⟩
     rw [if_pos hg, decide_eq_true hz, hb]
     simp only [Bool.not_true, cond_false]
     exact kept_l4 hv x _ [0] (by simp) q hq
    .have hg : ¬ goodG p (layN nl) r.zone x := fun h => hz (h.2 (by rw [hb]; simp))
     rw [if_neg hg, decide_eq_false hz]; rfl
  .obtain ⟨f1, f2, f3⟩ := hasP_fin hx
   have f0 : x.fin = 0 := by omega
   obtain ⟨hb, hne⟩ := backs_toe hc hp hx k2 f0
   have f0' : (x.fin == 0) = true := by simp [f0]
   simp only [b2, b2', b4, f, f0', decide_false, cond_true, cond_false, Option.bind_some]
   by_cases hz : x.elem ∈ r.zone
   .have hg : goodG p (layN nl) r.zone x := ⟨k4, fun _ => hz⟩
    rw [if_pos hg, decide_eq_true hz, hb]
    simp only [Bool.not_true, cond_false]
    rw [kept_l3 nl (by omega) x]
    simp only [Option.bind_some]
    refine kept_l4 hv x _ _ ?_ q hq
    simp only [List.length_append]
    split <;> split <;> simp
   .have hg : ¬ goodG p (layN nl) r.zone x := fun h => hz (h.2 hne)
    rw [if_neg hg, decide_eq_false hz]; rfl
 .have b2 : (kindP p x.elem == 2) = false := beq_eq_false_iff_ne.2 k2
  have b2' : (kindP p x.elem != 2) = true := by simp [k2]
  obtain ⟨o, ho, hb⟩ := backs_free (lay := layN nl) hx k2 k4
  simp only [b2, b2', b4, cond_true, cond_false, Option.bind_some, ho, i0, Option.getD_some, s0]
  by_cases hz : x.elem ∈ r.zone
  .have hg : goodG p (layN nl) r.zone x := ⟨k4, fun _ => hz⟩
   rw [if_pos hg, decide_eq_true hz, hb]
   simp only [Bool.not_true, cond_false]
   exact kept_l4 hv x _ [o] (by simp) q hq
  .have hg : ¬ goodG p (layN nl) r.zone x := fun h => hz (h.2 (by rw [hb]; simp))
   rw [if_neg hg, decide_eq_false hz]; rfl
end
end Go.E
/- Plain Lean: whether a road is guarded, by the program and by the document (law ProofGuards); what is guarded keeps (law ProofKeeps). No condition. -/
namespace Go.E
open Go
section
variable {p : Plan} {n : Net} {r : Road}
def unm (p : Plan) (met : List Port) : Nat := ((portsP p).filter fun x => !decide (x ∈ met)).length
theorem unm_lt {met : List Port} {x : Port} (hx : x ∈ portsP p) (hm : x ∉ met) : unm p (met ++ [x]) + 1 <= unm p met := by
 refine (filter_less (P := fun y => !decide (y ∈ met)) (P' := fun y => !decide (y ∈ met ++ [x])) (fun z hz => ?_) (portsP p)).2 x hx (by simp [hm]) (by simp)
 simp only [Bool.not_eq_true', decide_eq_false_iff_not, List.mem_append, not_or] at hz ⊢
 exact hz.1
theorem kept_search (hv : Valid p) (h1 : r.steps.length <= 12) (h2 : r.zone.length <= 1000) (h3 : r.holds.length <= 1000) {nl : List Need} (hl : nl.length <= 3000) (hc : consN nl) (hp : ∀ m ∈ nl, m.pos = 1 \/ m.pos = 2) :
  ∃ b, loopR (q_h p r nl) ([], startQ p (portsF p r.steps)) = some b /\ (b = true ↔ KeptG p (layN nl) r.holds r.zone r.steps) := by
 have hj := hv.nj
 have hpl := portsF_len (p := p) r.steps
 have h4 : (portsP p).length = 2 * p.joins.length := flat_len2 _
 refine loop_up (step := q_h p r nl) (Post := fun b => b = true ↔ KeptG p (layN nl) r.holds r.zone r.steps)
  (fun k s => GI p (layN nl) r.holds r.zone r.steps (fun y => y ∈ s.1 \/ y.elem ∈ r.steps.map (·.elem)) s.2 /\ k + s.2.length + 3 * unm p s.1 <= 700 /\ s.1.length <= k) 700 ?_ ?_
 .rintro k ⟨met, q⟩ ⟨hi, hms, hmet⟩
  dsimp only at hi hms hmet
  cases q with
  | nil => exact .inl ⟨true, by simp [q_h], fun _ => hi.done, fun _ => rfl⟩
  | cons x q =>
   simp only [List.length_cons] at hms
   have hx := (hi.arr x (by simp)).in_ports
   have hhas : hasP p x = true := by
    obtain ⟨i, hi⟩ := List.mem_iff_getElem?.1 hx
    exact hv.join.has i x hi
   rw [kept_round hv h1 h2 h3 hl hc hp hhas q (by omega) met (by omega)]
   by_cases c : x ∈ met \/ x.elem ∈ r.steps.map (·.elem)
   .rw [if_pos c]
    refine .inr ⟨by omega, _, rfl, hi.next (fun _ h => h) c (fun _ h => .inl h) (fun _ h => h) (fun y hy => hi.arr y (by simp [hy])) fun q => absurd c q, by dsimp only; omega, by dsimp only; omega⟩
   .rw [if_neg c]
    have c1 : x.elem ∉ r.steps.map (·.elem) := fun h => c (.inr h)
    have c3 : x ∉ met := fun h => c (.inl h)
    have hlt := unm_lt hx c3
    have hV : ∀ y, (y ∈ met ++ [x] \/ y.elem ∈ r.steps.map (·.elem)) ↔ (y ∈ met \/ y.elem ∈ r.steps.map (·.elem)) \/ y = x := fun y => by
     simp only [List.mem_append, List.mem_cons, List.not_mem_nil, or_false]
     constructor
     .rintro ((h | h) | h)
      .exact .inl (.inl h)
      .exact .inr h
      .exact .inl (.inr h)
     .rintro ((h | h) | h)
      .exact .inl (.inl h)
      .exact .inr h
      .exact .inl (.inr h)
    by_cases cs : shutG p r.holds x
    .rw [if_pos cs]
     refine .inr ⟨by omega, _, rfl, hi.next (fun y hy => (hV y).2 (.inl hy)) ((hV x).2 (.inr rfl)) (fun y hy => (hV y).1 hy) (fun _ h => h) (fun y hy => hi.arr y (by simp [hy])) fun _ _ h => absurd cs h, by dsimp only; omega, by simp only [List.length_append, List.length_cons, List.length_nil]; omega⟩
    .rw [if_neg cs]
     by_cases hg : goodG p (layN nl) r.zone x
     .rw [if_pos hg]
      have hb := backsP_len p (layN nl) x
      have hnl := nextsP_len (p := p) x.elem (backsP p (layN nl) x)
      exact .inr ⟨by omega, _, rfl, hi.go c1 cs hg hV, by simp only [List.length_append]; omega, by simp only [List.length_append, List.length_cons, List.length_nil]; omega⟩
     .rw [if_neg hg]
      exact .inl ⟨false, rfl, fun h => (by cases h), fun h => absurd h (hi.bad c1 cs hg)⟩
 .refine ⟨⟨fun y hy => ?_, fun x hx h1 h2 => ?_, fun x y hx hy => .inl (start_mem hx hy)⟩, ?_, Nat.zero_le _⟩
  .obtain ⟨x, hx, hy⟩ := start_ports r.steps y hy
   exact .init hx hy
  .rcases hx with h | h
   .cases h
   .exact absurd h h1
  .have h3 : unm p [] <= (portsP p).length := List.length_filter_le _ _
   simp only [startQ, List.length_map]
   omega
theorem kept_eq (hv : Valid p) (h1 : r.steps.length <= 12) (nl : List Need) : q_2z p r nl = loopR (q_h p r nl) ([], startQ p (portsF p r.steps)) := by
 have hj : p.joins.length < 1000000 := by have := hv.nj; omega
 have hp := portsF_len (p := p) r.steps
 unfold q_2z
 rw [Ports2_eq hv r (by omega)]
 exact start_loop (L := portsF p r.steps) (by omega) (fin := fun q => loopR (q_h p r nl) ([], q)) (fun q => by simp only [q_4m, dge, cond_false]) (fun i x q hx hq => by
  have := ilt hx
  simp only [q_4m, dlt hx, cond_true, idx_nat, hx, Option.bind_some, g_R6_Next_eq p hj, appI_ok (show q.length + [(nextP p x).getD (⟨0, 0⟩ : Port)].length <= 4294967296 by simp; omega), wi64_succ (show i < 1000000000 by omega)])
theorem kind_zero (hv : Valid p) (e : Int) : kindP p e = 0 ↔ ¬ (0 <= e /\ e < (p.elems.length : Int)) := by
 constructor
 .intro h hr
  obtain ⟨a, ha⟩ := idx_of hr.1 hr.2
  have hk : kindP p e = a.kind := by unfold kindP; rw [ha]; rfl
  obtain ⟨h1, _⟩ := idx_at ha
  have := (hv.args.elem _ a h1).ends
  rw [<- hk, h] at this
  exact this rfl
 .intro h
  unfold kindP
  rw [idx_none (by omega)]
  rfl
theorem okG_bool (m : Need) : (bif kindP p m.elem != 2 then some true else bif m.pos != 1 then some (m.pos != 2) else some false : Option Bool) = some (!decide (okG p m)) := by
 unfold okG
 by_cases c2 : kindP p m.elem = 2
 .have b2 : (kindP p m.elem != 2) = false := by simp [c2]
  rw [b2]
  by_cases c3 : m.pos = 1
  .simp [c2, c3]
  .have b3 : (m.pos != 1) = true := bne_iff_ne.2 c3
   rw [b3]
   by_cases c4 : m.pos = 2
   .simp [c2, c3, c4]
   .have b4 : (m.pos != 2) = true := bne_iff_ne.2 c4
    rw [b4]
    simp [c2, c3, c4]
 .have b2 : (kindP p m.elem != 2) = true := bne_iff_ne.2 c2
  rw [b2]
  simp [c2]
theorem R12_Guarded_eq (hv : Valid p) (h1 : r.steps.length <= 12) (h2 : r.needs.length <= 1000) (h3 : r.guards.length <= 1000) (h4 : r.zone.length <= 1000) (h5 : r.holds.length <= 1000) (hnp : ∀ m ∈ r.needs, m.pos = 1 \/ m.pos = 2) : ∃ b, q_1v p r = some b /\ (b = true ↔ GuardP p r) := by
 unfold q_1v
 have hL : (r.needs ++ r.guards).length < 1000000 := by simp; omega
 simp only [all_eq r h2 h3, Option.bind_some, against_eq _ _ hL hL]
 cases hx : crossN (r.needs ++ r.guards) (r.needs ++ r.guards) with
 | true =>
  refine ⟨false, rfl, fun h => (by cases h), fun h => ?_⟩
  have := crossN_false.2 h.cons
  rw [hx] at this
  cases this
 | false =>
  have hc := crossN_false.1 hx
  simp only [cond_false]
  have l3 : loopR (q_w p r (r.needs ++ r.guards)) 0 = if r.holds.any (fun s => !decide (0 <= s /\ s < (p.signals.length : Int))) = true then some false else q_2z p r (r.needs ++ r.guards) := by
   refine any_loop (l := r.holds) _ false _ ?_ fun i s hs => ?_
   .simp only [q_w, dge, cond_false]
    cases q_2z p r (r.needs ++ r.guards) <;> rfl
   .have := ilt hs
    simp only [q_w, dlt hs, cond_true, idx_nat, hs, Option.bind_some, At_eq, wi64_succ (show i < 1000000000 by omega)]
    by_cases c : 0 <= s /\ s < (p.signals.length : Int)
    .obtain ⟨a, ha⟩ := idx_of c.1 c.2
     rw [ha, decide_eq_true c]; rfl
    .rw [idx_none (by omega), decide_eq_false c]; rfl
  have l2 : loopR (q_x p r (r.needs ++ r.guards)) 0 = if r.zone.any (fun e => !decide (0 <= e /\ e < (p.elems.length : Int) /\ e ∉ r.steps.map (·.elem))) = true then some false else loopR (q_w p r (r.needs ++ r.guards)) 0 := by
   refine any_loop (l := r.zone) _ false _ ?_ fun i e he => ?_
   .simp only [q_x, dge, cond_false]
   .have := ilt he
    simp only [q_x, dlt he, cond_true, idx_nat, he, Option.bind_some, g_R6_Kind_eq, Own2_eq r (show r.steps.length < 1000000 by omega), wi64_succ (show i < 1000000000 by omega)]
    by_cases c1 : 0 <= e /\ e < (p.elems.length : Int)
    .have hk : (kindP p e == 0) = false := beq_eq_false_iff_ne.2 fun h => (kind_zero hv e).1 h c1
     rw [hk]
     by_cases c4 : e ∈ r.steps.map (·.elem)
     .have c3 : ¬ (0 <= e /\ e < (p.elems.length : Int) /\ e ∉ r.steps.map (·.elem)) := fun h => h.2.2 c4
      rw [decide_eq_true c4, decide_eq_false c3]; rfl
     .have c3 : (0 <= e /\ e < (p.elems.length : Int) /\ e ∉ r.steps.map (·.elem)) := ⟨c1.1, c1.2, c4⟩
      rw [decide_eq_false c4, decide_eq_true c3]; rfl
    .have hk : (kindP p e == 0) = true := by simp [(kind_zero hv e).2 c1]
     have c3 : ¬ (0 <= e /\ e < (p.elems.length : Int) /\ e ∉ r.steps.map (·.elem)) := fun h => c1 ⟨h.1, h.2.1⟩
     rw [hk, decide_eq_false c3]; rfl
  have l1 : loopR (q_1m p r (r.needs ++ r.guards)) 0 = if r.guards.any (fun m => !decide (okG p m)) = true then some false else loopR (q_x p r (r.needs ++ r.guards)) 0 := by
   refine any_loop (l := r.guards) _ false _ ?_ fun i m hm => ?_
   .simp only [q_1m, dge, cond_false]
   .have := ilt hm
    simp only [q_1m, dlt hm, cond_true, idx_nat, hm, Option.bind_some, g_R6_Kind_eq, wi64_succ (show i < 1000000000 by omega)]
    rw [okG_bool]
    simp only [Option.bind_some]
    cases h : decide (okG p m) <;> rfl
  rw [l1]
  by_cases c0 : r.guards.any (fun m => !decide (okG p m)) = true
  .rw [if_pos c0]
   refine ⟨false, rfl, fun h => (by cases h), fun h => ?_⟩
   obtain ⟨m, hm, hb⟩ := List.any_eq_true.1 c0
   have := h.guard m hm
   simp only [Bool.not_eq_true', decide_eq_false_iff_not] at hb
   exact absurd this hb
  rw [if_neg c0, l2]
  have hg : ∀ m ∈ r.guards, okG p m := fun m hm => Decidable.byContradiction fun hb => c0 (List.any_eq_true.2 ⟨m, hm, by simp only [Bool.not_eq_true', decide_eq_false_iff_not]; exact hb⟩)
  by_cases c1 : r.zone.any (fun e => !decide (0 <= e /\ e < (p.elems.length : Int) /\ e ∉ r.steps.map (·.elem))) = true
  .rw [if_pos c1]
   refine ⟨false, rfl, fun h => (by cases h), fun h => ?_⟩
   obtain ⟨e, he, hb⟩ := List.any_eq_true.1 c1
   have := h.zone e he
   simp only [Bool.not_eq_true', decide_eq_false_iff_not] at hb
   exact absurd this hb
  rw [if_neg c1, l3]
  by_cases c2 : r.holds.any (fun s => !decide (0 <= s /\ s < (p.signals.length : Int))) = true
  .rw [if_pos c2]
   refine ⟨false, rfl, fun h => (by cases h), fun h => ?_⟩
   obtain ⟨e, he, hb⟩ := List.any_eq_true.1 c2
   have := h.hold e he
   simp only [Bool.not_eq_true', decide_eq_false_iff_not] at hb
   exact absurd this hb
  rw [if_neg c2]
  obtain ⟨b, e1, e2⟩ := kept_search hv h1 h4 h5 (nl := r.needs ++ r.guards) (by simp; omega) hc (fun m hm => by
   rcases List.mem_append.1 hm with hm | hm
   .exact hnp m hm
   .exact (hg m hm).2)
  refine ⟨b, by rw [kept_eq hv h1, e1], fun h => ⟨hc, hg, fun e he => ?_, fun s hs => ?_, e2.1 h⟩, fun h => e2.2 h.kept⟩
  .exact Decidable.byContradiction fun hb => c1 (List.any_eq_true.2 ⟨e, he, by simp only [Bool.not_eq_true', decide_eq_false_iff_not]; exact hb⟩)
  .exact Decidable.byContradiction fun hb => c2 (List.any_eq_true.2 ⟨s, hs, by simp only [Bool.not_eq_true', decide_eq_false_iff_not]; exact hb⟩)
theorem oru8_odd : ∀ w : Nat, w < 256 -> modI (oru8 w 1) 2 = some 1 /\ 0 <= oru8 w 1 := by decide +kernel
structure TurnF (r q : Road) : Prop where
 frm : q.frm = r.frm
 to : q.to = r.to
 fin : q.fin = r.fin
 steps : q.steps = r.steps
 needs : q.needs = r.needs
 guards : q.guards.length <= r.guards.length + 1
 zone : q.zone.length <= r.zone.length + 1
 holds : q.holds.length <= r.holds.length + 1
theorem Turned_flank (r : Road) {w k v : Int} (hw : modI w 2 = some 1) (hg : r.guards.length <= 10000) (hz : r.zone.length <= 10000) (hh : r.holds.length <= 10000) : ∃ q, q_3v r w k v = some q /\ TurnF r q := by
 unfold q_3v
 have d0 : divU w 2 = some (IntKind.wrap .u8 (w.tdiv 2)) := by unfold divU; rw [if_neg (by decide)]
 have d1 : modI (IntKind.wrap .u8 (w.tdiv 2)) 7 = some ((IntKind.wrap .u8 (w.tdiv 2)).tmod 7) := by unfold modI; rw [if_neg (by decide)]
 have a1 := appI_ok (show ([] : List Int).length + r.zone.length <= 4294967296 by simp; omega)
 have a2 := appI_ok (show r.zone.length + [v].length <= 4294967296 by simp; omega)
 have a3 := appI_ok (show ([] : List Int).length + r.holds.length <= 4294967296 by simp; omega)
 have a4 := appI_ok (show r.holds.length + [v].length <= 4294967296 by simp; omega)
 have a5 := appI_ok (show ([] : List Need).length + r.guards.length <= 4294967296 by simp; omega)
 have a6 := appI_ok (show r.guards.length + [(⟨wi64 k, v⟩ : Need)].length <= 4294967296 by simp; omega)
 simp only [hw, Option.bind_some, show ((1 : Int) == 0) = false from rfl, cond_false, d0, d1, a1, a2, a3, a4, a5, a6, List.nil_append]
 simp only [cbeq]
 generalize (IntKind.wrap .u8 (w.tdiv 2)).tmod 7 = y
 repeat' split
 all_goals try simp only [Option.bind_some]
 all_goals refine ⟨_, rfl, ?_⟩
 all_goals constructor <;> first | rfl | (simp only [List.length_append, List.length_cons, List.length_nil]; omega)
theorem ProofGuards_true (p : Plan) (k w b v : Int) (hk : (Lit.int .u8 k).wf = true) (hw : (Lit.int .u8 w).wf = true) (hb : (Lit.int .u8 b).wf = true) : q_2f p k w b v = some true := by
 unfold q_2f
 simp only [known12, Option.bind_some, Bool.not_true, cond_false]
 obtain ⟨b0, h1, h2⟩ := fine_total p
 simp only [h1, Option.bind_some]
 cases b0 with
 | false => rfl
 | true =>
  have hv := h2 rfl
  obtain ⟨o, h3, h4⟩ := made_total p
  obtain ⟨n, rfl, hn⟩ := h4 h1
  obtain ⟨r, b1, h5, h6⟩ := L8_Road_eq hv hk
  simp only [Bool.not_true, cond_false, Option.bind_some, h3, h5, optM]
  cases b1 with
  | false => rfl
  | true =>
   obtain ⟨s, hs⟩ := h6 rfl
   have hl := ofF_steps hs
   have hnd : r.needs.length <= 12 := (ofF_road hs).2.2.2.2.2.2.2.2
   obtain ⟨g, z, h, bb, e1, e2, e3, e4, e5, e6⟩ := flank_total hv hn hl (show r.needs.length <= 1000 by omega)
   have hzl := e2.len
   obtain ⟨w0, rfl⟩ := Int.eq_ofNat_of_zero_le (u8w hw).1
   have hodd := oru8_odd w0 (by have := (u8w hw).2.1; omega)
   obtain ⟨q, q1, q2⟩ := Turned_flank (⟨r.frm, r.to, r.fin, r.steps, r.needs, g, z, h, bb⟩ : Road) (k := b) (v := v) hodd.1 (show g.length <= 10000 by omega) (show z.length <= 10000 by omega) (show h.length <= 10000 by omega)
   obtain ⟨m, m1, m2, m3⟩ := mod_ok (u8w hb).1 (show (0 : Int) < 2 by decide)
   have hnp : ∀ m ∈ r.needs, m.pos = 1 \/ m.pos = 2 := fun m hm => ((road_NOK hs).ok m hm).2.2
   simp only [Bool.not_true, cond_false, e1, Option.bind_some, m1]
   have fin : ∀ Q : Road, Q.steps = r.steps -> Q.needs = r.needs -> Q.guards.length <= 1000 -> Q.zone.length <= 1000 -> Q.holds.length <= 1000 -> ((q_m n Q).bind fun y => (q_1v p Q).bind fun z => some (y == z)) = some true := fun Q a1 a2 a3 a4 a5 => by
    obtain ⟨x, x1, x2⟩ := Guarded_eq (r := Q) hv hn (by rw [a1]; exact hl) (by rw [a2]; omega) a3 a4 a5
    obtain ⟨y, y1, y2⟩ := R12_Guarded_eq (r := Q) hv (by rw [a1]; exact hl) (by rw [a2]; omega) a3 a4 a5 (by rw [a2]; exact hnp)
    rw [x1, y1]
    have : x = y := Bool.eq_iff_iff.2 (x2.trans y2.symm)
    simp [this]
   by_cases c : m = 1
   .subst c
    simp only [beq_self_eq_true, cond_true, q1, Option.bind_some]
    exact fin q q2.steps q2.needs (by have := q2.guards; simp only at this; omega) (by have := q2.zone; simp only at this; omega) (by have := q2.holds; simp only at this; omega)
   .have : (m == 1) = false := beq_eq_false_iff_ne.2 c
    simp only [this, cond_false, Option.bind_some]
    exact fin _ rfl rfl (show g.length <= 1000 by omega) (show z.length <= 1000 by omega) (show h.length <= 1000 by omega)
end
end Go.E
