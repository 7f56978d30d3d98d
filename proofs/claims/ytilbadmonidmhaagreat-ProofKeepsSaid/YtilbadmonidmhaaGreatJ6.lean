/- Reach hands the keys of a map out in whatever order and sorts them: what it answers has no order in it; the example that the laws of sides look at. No condition. -/
import Derived.KernelRfl
import Derived.Test.YtilbadmonidmhaaGreatJ5
set_option linter.unusedVariables false
set_option linter.unusedSimpArgs false
namespace Go.E
open Go Go.Proofs
def keysF (m : List (Int × Bool)) : Option (List Int) := if m.length <= 4294967296 then some (isort (m.map (·.1))) else none
theorem isort_congr {a b : List Int} (h : a.Perm b) : isort a = isort b :=
 List.Perm.eq_of_pairwise (le := fun a b : Int => a <= b) (fun a b _ _ h1 h2 => Int.le_antisymm h1 h2) (isort_rise a) (isort_rise b) ((isort_perm a).trans (h.trans (isort_perm b).symm))
theorem erase_perm {α : Type} : ∀ {l : List α} {j : Nat} {y : α}, l[j]? = some y -> (y :: l.eraseIdx j).Perm l
 | x :: l, 0, y, h => by
  rw [List.getElem?_cons_zero] at h
  cases h
  rw [List.eraseIdx_cons_zero]
 | x :: l, j + 1, y, h => by
  rw [List.getElem?_cons_succ] at h
  rw [List.eraseIdx_cons_succ]
  exact (List.Perm.swap x y _).trans ((erase_perm h).cons x)
theorem keys_run : ∀ {n : Nat} {s : List Int × List (Int × Bool)} {r : List Int}, AllRun (fun s : List Int × List (Int × Bool) => s.2) q_v q_l n s r -> s.1.length <= 4294967296 -> s.1.length + s.2.length <= 4294967296
 | 0, _, _, h, _ => h.elim
 | n + 1, (a, m), r, h, h0 => by
  cases m with
  | nil => exact h0
  | cons y m =>
   have hy := h.2 0 y rfl
   simp only [q_l, appI, List.length_cons, List.length_nil, List.eraseIdx_cons_zero] at hy
   split at hy
   .rename_i hle
    rcases hy with e | ⟨s', e, hr⟩
    .cases e
    .cases e
     have := keys_run hr (by simp; omega)
     simp at this ⊢
     omega
   .rcases hy with e | ⟨s', e, hr⟩ <;> cases e
theorem keysA (m : List (Int × Bool)) : loopA (fun s : List Int × List (Int × Bool) => s.2) q_v q_l ([], m) = keysF m := by
 unfold keysF
 split
 .rename_i hm
  refine loopA_inv (fun s => (s.1 ++ s.2.map (·.1)).Perm (m.map (·.1))) ?_ ?_ (by simp)
  .rintro ⟨a, b⟩ hp h0
   simp only at h0
   subst h0
   simp only [List.map_nil, List.append_nil] at hp
   have hl := hp.length_eq
   rw [List.length_map] at hl
   have e1 : sortI a = some (isort a) := by unfold sortI; rw [if_pos (by omega)]
   simp only [q_v, e1, Option.bind_some, Option.map_some, isort_congr hp]
  .rintro ⟨a, b⟩ j y hp hy
   simp only at hy hp
   have he := (erase_perm hy).map (·.1)
   have hl := hp.length_eq
   have hl2 := (erase_perm hy).length_eq
   simp only [List.length_append, List.length_map, List.length_cons] at hl hl2
   refine .inr ⟨(a ++ [y.1], b.eraseIdx j), ?_, rfl, ?_⟩
   .simp only [q_l, appI, List.length_cons, List.length_nil]
    rw [if_pos (by omega)]
    rfl
   .simp only [List.append_assoc, List.singleton_append]
    refine List.Perm.trans (List.Perm.append_left a ?_) hp
    exact he
 .rename_i hm
  cases h : loopA (fun s : List Int × List (Int × Bool) => s.2) q_v q_l ([], m) with
  | none => rfl
  | some r =>
   obtain ⟨n, hr⟩ := loopA_some h
   have := keys_run hr (by simp)
   simp at this
   omega
noncomputable def r_side_Reach_l2 (x0 : Net) (x1 : (List Int)) (x2 : (List Bool)) (x3 : Road) (s555 : (List Port) × (List (Port × Bool)) × (List (Int × Bool))) : Option (((List Port) × (List (Port × Bool)) × (List (Int × Bool))) ⊕ (List Int)) :=
 bif decide (0 < (s555.1.length : Int)) then (idx s555.1 0).bind fun y789 => (slO s555.1 1 (s555.1.length : Int)).bind fun y793 => (q_2 x0 y789).bind fun y797 => ((bif ((assoc s555.2.1 y789).getD false) then some true else (q_m x3 y789.elem).bind fun y850 => bif y850 then some true else bif decide (0 <= y797) then bif decide (y797 < (x2.length : Int)) then (idx x2 y797).bind fun y856 => some y856 else some false else some false : Option (Bool))).bind fun (t846 : Bool) => bif t846 then some (.inl (y793, aput y789 true s555.2.1, s555.2.2)) else (q_3 x0 y789.elem).bind fun y865 => bif (y865 == 4) then some (.inl (y793, s555.2.1, aput y789.elem true s555.2.2)) else ((bif decide (y789.elem < (x1.length : Int)) then (idx x1 y789.elem).bind fun y876 => some y876 else some 0 : Option (Int))).bind fun (t873 : Int) => (q_w x0 y789.elem y789.fin t873).bind fun y882 => bif (!y882.2) then some (.inl (y793, aput y789 true s555.2.1, s555.2.2)) else (q_0 x0 (⟨y789.elem, y882.1⟩ : Port)).bind fun y890 => bif y890.2 then (appI y793 [y890.1]).bind fun y893 => some (.inl (y893, aput y789 true s555.2.1, aput y789.elem true s555.2.2)) else some (.inl (y793, aput y789 true s555.2.1, aput y789.elem true s555.2.2)) else (keysF s555.2.2).map .inr
noncomputable def r_side_Reach_l1 (x0 : Net) (x1 : (List Int)) (x2 : (List Bool)) (x3 : Road) (y108 : (List Port)) (s110 : Int × (List Port)) : Option ((Int × (List Port)) ⊕ (List Int)) :=
 bif decide (s110.1 < (y108.length : Int)) then (idx y108 s110.1).bind fun y200 => (q_0 x0 y200).bind fun y204 => (appI s110.2 [y204.1]).bind fun y206 => some (.inl (wi64 (s110.1 + 1), y206)) else (loopR (r_side_Reach_l2 x0 x1 x2 x3) (s110.2, [], [])).map .inr
noncomputable def r_side_Reach (x0 : Net) (x1 : (List Int)) (x2 : (List Bool)) (x3 : Road) : Option (List Int) :=
 (q_15 x0 x3).bind fun y108 => loopR (r_side_Reach_l1 x0 x1 x2 x3 y108) (0, ([] : List Port))
theorem reach_l2_eq : q_39 = r_side_Reach_l2 := by
 funext x0 x1 x2 x3 s
 unfold q_39 r_side_Reach_l2
 simp only [keysA]
theorem reach_l1_eq : q_3a = r_side_Reach_l1 := by
 funext x0 x1 x2 x3 y s
 unfold q_3a r_side_Reach_l1
 rw [reach_l2_eq]
theorem reach_eq : q_27 = r_side_Reach := by
 funext x0 x1 x2 x3
 unfold q_27 r_side_Reach
 rw [reach_l1_eq]
set_option maxRecDepth 100000
end Go.E
/- Plain Lean: the ports on the sides of a road, and what is its own: the program's answer and the document's are one (laws SidePorts, SideOwns). No condition. -/
namespace Go.E
open Go
theorem any_find {l : List Step} {e : Int} : decide (e ∈ l.map (·.elem)) = (l.find? fun s => s.elem == e).isSome := by
 induction l with
 | nil => simp
 | cons a l ih =>
  rw [List.find?_cons]
  by_cases c : a.elem = e
  .simp [c]
  .have : (a.elem == e) = false := beq_eq_false_iff_ne.2 c
   rw [this]
   simp only [List.map_cons, List.mem_cons, Ne.symm c, false_or]
   exact ih
theorem Own_eq (r : Road) (hl : r.steps.length < 1000000) (e : Int) : q_m r e = some (decide (e ∈ r.steps.map (·.elem))) := by
 unfold q_m
 obtain ⟨t, h1, h2⟩ := index_loop (l := r.steps) (f := fun s => s.elem == e) hl (step := q_32 r e) (by simp [q_32]) (fun i a ha => by
  have := ilt ha
  simp only [q_32, q_4u, dlt ha, cond_true, idx_nat, ha, Option.bind_some, wi64_succ (show i < 1000000000 by omega)]
  by_cases c : a.elem = e
  .simp [c]
  .have : (a.elem == e) = false := beq_eq_false_iff_ne.2 c
   simp [this])
 rw [h1, any_find]
 simp only [Option.bind_some, Option.some.injEq]
 rcases h2 with ⟨rfl, h2⟩ | ⟨a, h0, h2, _⟩
 .rw [h2]; rfl
 .rw [h2]; simp [h0]
theorem flat_loop {α β γ : Type} (B : Nat) {l : List α} (f : α -> List β) (hf : ∀ a, (f a).length <= 4) (hl : l.length <= 100000) {step : Int × List β -> Option (Int × List β ⊕ γ)} {fin : List β -> γ}
  (h0 : ∀ o, step ((l.length : Int), o) = some (.inr (fin o))) (h1 : ∀ (i : Nat) a o, l[i]? = some a -> o.length <= B + 400000 -> step ((i : Int), o) = some (.inl (((i + 1 : Nat) : Int), o ++ f a))) (o : List β) (ho : o.length <= B) :
  loopR step ((0 : Int), o) = some (fin (o ++ l.flatMap f)) := by
 have hlen : ∀ i, ((l.take i).flatMap f).length <= i * 4 := by
  intro i
  induction i with
  | zero => simp
  | succ i ih =>
   rw [List.take_add_one, List.flatMap_append, List.length_append]
   cases h : l[i]? with
   | none => simp only [Option.toList_none, List.flatMap_nil, List.length_nil]; omega
   | some a =>
    have := hf a
    simp only [Option.toList_some, List.flatMap_cons, List.flatMap_nil, List.append_nil]
    omega
 obtain ⟨b, h2, rfl⟩ := loop_st (l := l) (step := step) (Post := fun b => b = fin (o ++ l.flatMap f)) (fun i c => c = o ++ (l.take i).flatMap f) (c := o)
  (fun c hc => ⟨fin c, h0 c, by rw [hc, List.take_length]⟩)
  (fun i a c ha hc => by
   have hi := ilt ha
   have := hlen i
   refine .inr ⟨c ++ f a, h1 i a c ha (by rw [hc, List.length_append]; omega), ?_⟩
   rw [hc, List.take_add_one, ha]
   simp only [Option.toList_some, List.flatMap_append, List.flatMap_cons, List.flatMap_nil, List.append_nil, List.append_assoc])
  (by simp)
 exact h2
section
variable {p : Plan} {n : Net}
def sideK (p : Plan) (s : Step) : List Int :=
 if kindP p s.elem = 2 then [wi64 (3 - (if s.out > s.in_ then s.out else s.in_))] else if kindP p s.elem = 3 then (if 1 < s.in_ then [0, 1] else [2, 3]) else []
def joinK (p : Plan) (e : Int) (k : Int) : List Port := if (nextP p ⟨e, k⟩).isSome then [⟨e, k⟩] else []
def portsS (p : Plan) (s : Step) : List Port := (sideK p s).flatMap (joinK p s.elem)
def portsF (p : Plan) (l : List Step) : List Port := l.flatMap (portsS p)
theorem sideK_len (s : Step) : (sideK p s).length <= 2 := by
 unfold sideK
 split
 .simp
 .split
  .split <;> simp
  .simp
theorem joinK_len (e k : Int) : (joinK p e k).length <= 1 := by unfold joinK; split <;> simp
theorem portsS_len (s : Step) : (portsS p s).length <= 2 := by
 have := flat_lenB (joinK p s.elem) 1 (sideK p s) fun k _ => joinK_len s.elem k
 have := sideK_len (p := p) s
 unfold portsS
 omega
theorem portsF_len (l : List Step) : (portsF p l).length <= l.length * 2 := flat_lenB _ 2 l fun s _ => portsS_len s
theorem Ports_l2 (hn : NetOf p n) (s : Step) (c : Int × List Port) (ks : List Int) (hk : ks.length <= 10) (o : List Port) (ho : o.length <= 400000) :
  loopR (q_23 n c s ks) (0, o) = some (.inl (wi64 (c.1 + 1), o ++ ks.flatMap (joinK p s.elem))) := by
 refine flat_loop 400000 (l := ks) (joinK p s.elem) (fun k => by have := joinK_len (p := p) s.elem k; omega) (by omega) (fin := fun o => (Sum.inl (wi64 (c.1 + 1), o) : (Int × List Port) ⊕ List Port)) (fun o => ?_) (fun i a o ha hb => ?_) o ho
 .simp only [q_23, dge, cond_false]
 .have := ilt ha
  simp only [q_23, dlt ha, cond_true, idx_nat, ha, Option.bind_some, net_Next hn, wi64_succ (show i < 1000000000 by omega)]
  unfold joinK
  cases (nextP p ⟨s.elem, a⟩).isSome with
  | true => simp [appI_ok (show o.length + [(⟨s.elem, a⟩ : Port)].length <= 4294967296 by simp; omega)]
  | false => simp
theorem Ports_eq (hn : NetOf p n) (r : Road) (hl : r.steps.length <= 1000) : q_15 n r = some (portsF p r.steps) := by
 unfold q_15
 rw [show portsF p r.steps = ([] : List Port) ++ r.steps.flatMap (portsS p) from rfl]
 refine flat_loop 0 (l := r.steps) (portsS p) (fun s => by have := portsS_len (p := p) s; omega) (by omega) (fin := fun o => o) (fun o => ?_) (fun i s o ha hb => ?_) [] (by simp)
 .simp only [q_3e, dge, cond_false]
 .have hi := ilt ha
  simp only [q_3e, dlt ha, cond_true, idx_nat, ha, Option.bind_some, net_Kind hn]
  have e : (bif (kindP p s.elem == 2) then some [wi64 (3 - (if s.out > s.in_ then s.out else s.in_))] else bif (kindP p s.elem == 3) then bif decide (1 < s.in_) then some [0, 1] else some [2, 3] else some ([] : List Int) : Option (List Int)) = some (sideK p s) := by
   unfold sideK
   by_cases c2 : kindP p s.elem = 2
   .simp [c2]
   .have b2 : (kindP p s.elem == 2) = false := beq_eq_false_iff_ne.2 c2
    by_cases c3 : kindP p s.elem = 3
    .by_cases d : 1 < s.in_ <;> simp [b2, c2, c3, d]
    .have b3 : (kindP p s.elem == 3) = false := beq_eq_false_iff_ne.2 c3
     simp [b2, b3, c2, c3]
  rw [e]
  have hk := sideK_len (p := p) s
  simp only [Option.bind_some, Ports_l2 hn s ((i : Int), o) (sideK p s) (by omega) o (by omega), wi64_succ (show i < 1000000000 by omega)]
  rfl
theorem L8_Road_eq (hv : Valid p) {k : Int} (hk : (Lit.int .u8 k).wf = true) : ∃ r b, q_4h p k = some (r, b) /\ (b = true -> ∃ s, r ∈ ofF p s) := by
 obtain ⟨h0, h1, h2⟩ := u8w hk
 unfold q_4h
 simp only [R12_All_eq hv, Option.bind_some]
 by_cases c : (allR p).2 = 0
 .have c' : ((allR p).2 != 0) = false := by simp [c]
  by_cases d : (allR p).1.length = 0
  .exact ⟨(⟨0, 0, 0, [], [], [], [], [], false⟩ : Road), false, by simp [c', d], by simp⟩
  .have d' : (((allR p).1.length : Int) == 0) = false := by simp only [beq_eq_false_iff_ne, ne_eq]; omega
   obtain ⟨m, hm, m0, m1⟩ := mod_ok h0 (show (0 : Int) < ((allR p).1.length : Int) by omega)
   have e3 : ∃ r, idx (allR p).1 m = some r := by
    obtain ⟨q, rfl⟩ : ∃ q : Nat, m = (q : Int) := ⟨m.toNat, by omega⟩
    exact ⟨_, by rw [idx_nat, List.getElem?_eq_getElem (by omega)]⟩
   obtain ⟨r, hr⟩ := e3
   have hmem : r ∈ (allR p).1 := by
    obtain ⟨q, rfl⟩ : ∃ q : Nat, m = (q : Int) := ⟨m.toNat, by omega⟩
    rw [idx_nat] at hr
    exact List.mem_of_getElem? hr
   exact ⟨r, true, by simp only [c', d', cond_false, Option.bind_some, h2, hm, hr], fun _ => allR_mem hmem⟩
 .have c' : ((allR p).2 != 0) = true := by simp [c]
  exact ⟨(⟨0, 0, 0, [], [], [], [], [], false⟩ : Road), false, by simp [c'], by simp⟩
theorem ofF_steps {s : Int} {r : Road} (h : r ∈ ofF p s) : r.steps.length <= 12 := (ofF_road h).2.2.2.2.2.2.1
end
end Go.E
/- Plain Lean: which ports lie on the sides of a road (law SideApart). No condition. -/
namespace Go.E
open Go
section
variable {p : Plan} {n : Net}
end
end Go.E
/- Plain Lean: what the sides of a road reach, told without an order (Arr, ZoneR): the program's answer. No condition. -/
namespace Go.E
open Go
theorem aput_keys {κ υ : Type} [DecidableEq κ] (x : κ) (v : υ) : ∀ m : List (κ × υ), ((aput x v m).map (·.1) = m.map (·.1) /\ x ∈ m.map (·.1)) \/ ((aput x v m).map (·.1) = m.map (·.1) ++ [x] /\ x ∉ m.map (·.1))
 | [] => .inr ⟨rfl, by simp⟩
 | q :: m => by
  unfold aput
  by_cases e : x = q.1
  .subst e
   exact .inl ⟨by simp, by simp⟩
  .have : (x == q.1) = false := beq_eq_false_iff_ne.2 e
   simp only [this, Bool.false_eq_true, if_false]
   rcases aput_keys x v m with ⟨h1, h2⟩ | ⟨h1, h2⟩
   .exact .inl ⟨by simp only [List.map_cons, h1], by simp only [List.map_cons, List.mem_cons]; exact .inr h2⟩
   .exact .inr ⟨by simp only [List.map_cons, h1, List.cons_append], by simp only [List.map_cons, List.mem_cons, not_or]; exact ⟨e, h2⟩⟩
theorem assoc_mem {κ υ : Type} [DecidableEq κ] (x : κ) : ∀ m : List (κ × υ), (assoc m x).isSome = true ↔ x ∈ m.map (·.1)
 | [] => by simp [assoc]
 | q :: m => by
  unfold assoc
  by_cases e : x = q.1
  .simp [e]
  .have : (x == q.1) = false := beq_eq_false_iff_ne.2 e
   simp only [this, Bool.false_eq_true, if_false, List.map_cons, List.mem_cons, e, false_or]
   exact assoc_mem x m
theorem aput_isSome {κ υ : Type} [DecidableEq κ] (x : κ) (v : υ) (m : List (κ × υ)) (y : κ) : (assoc (aput x v m) y).isSome = true ↔ y = x \/ (assoc m y).isSome = true := by
 rw [assoc_aput']
 by_cases e : y = x <;> simp [e]
theorem aput_nodup {κ υ : Type} [DecidableEq κ] {x : κ} {v : υ} {m : List (κ × υ)} (h : (m.map (·.1)).Nodup) : ((aput x v m).map (·.1)).Nodup := by
 rcases aput_keys x v m with ⟨h1, h2⟩ | ⟨h1, h2⟩
 .rw [h1]; exact h
 .rw [h1, List.nodup_append]
  exact ⟨h, by simp, fun a ha b hb => by simp at hb; subst hb; intro e; subst e; exact h2 ha⟩
theorem aput_len {κ υ : Type} [DecidableEq κ] (x : κ) (v : υ) (m : List (κ × υ)) : (aput x v m).length <= m.length + 1 := by
 have : ((aput x v m).map (·.1)).length <= m.length + 1 := by
  rcases aput_keys x v m with ⟨h1, h2⟩ | ⟨h1, h2⟩ <;> rw [h1] <;> simp
 simpa using this
def seenB (vis : List (Port × Bool)) (x : Port) : Bool := (assoc vis x).getD false
theorem seenB_aput (vis : List (Port × Bool)) (x y : Port) : seenB (aput x true vis) y = true ↔ y = x \/ seenB vis y = true := by
 unfold seenB
 rw [assoc_aput']
 by_cases e : y = x <;> simp [e]
theorem filter_less {α : Type} {P P' : α -> Bool} (hpp : ∀ z, P' z = true -> P z = true) : ∀ l : List α, (l.filter P').length <= (l.filter P).length /\ ∀ x ∈ l, P x = true -> P' x = false -> (l.filter P').length + 1 <= (l.filter P).length
 | [] => ⟨Nat.le_refl _, by simp⟩
 | a :: l => by
  obtain ⟨h1, h2⟩ := filter_less hpp l
  rw [List.filter_cons, List.filter_cons]
  by_cases c : P' a = true
  .rw [if_pos c, if_pos (hpp a c)]
   simp only [List.length_cons]
   refine ⟨by omega, fun x hx hp hp' => ?_⟩
   rcases List.mem_cons.1 hx with rfl | hx
   .rw [c] at hp'; cases hp'
   .have := h2 x hx hp hp'; omega
  .rw [if_neg c]
   by_cases d : P a = true
   .rw [if_pos d]
    simp only [List.length_cons]
    exact ⟨by omega, fun x hx hp hp' => by omega⟩
   .rw [if_neg d]
    refine ⟨h1, fun x hx hp hp' => ?_⟩
    rcases List.mem_cons.1 hx with rfl | hx
    .exact absurd hp d
    .exact h2 x hx hp hp'
section
variable {p : Plan} {n : Net}
def shutP (p : Plan) (shut : List Bool) (x : Port) : Bool := decide (0 <= readsP p x) && (idx shut (readsP p x)).getD false
inductive Arr (p : Plan) (pos : List Int) (shut : List Bool) (st : List Step) : Port -> Prop
 | init {x y : Port} : x ∈ portsF p st -> nextP p x = some y -> Arr p pos shut st y
 | step {x y : Port} {o : Int} : Arr p pos shut st x -> x.elem ∉ st.map (·.elem) -> shutP p shut x = false -> kindP p x.elem ≠ 4 -> throughP p x.elem x.fin (lieW pos x.elem) = some o -> nextP p ⟨x.elem, o⟩ = some y -> Arr p pos shut st y
def ZoneR (p : Plan) (pos : List Int) (shut : List Bool) (st : List Step) (e : Int) : Prop :=
 ∃ x, Arr p pos shut st x /\ x.elem = e /\ e ∉ st.map (·.elem) /\ shutP p shut x = false /\ (kindP p e = 4 \/ (throughP p e x.fin (lieW pos e)).isSome = true)
variable {pos : List Int} {shut : List Bool} {r : Road}
theorem Arr.from {st : List Step} {y : Port} (h : Arr p pos shut st y) : ∃ x, nextP p x = some y := by
 cases h with
 | init h1 h2 => exact ⟨_, h2⟩
 | step _ _ _ _ _ h2 => exact ⟨_, h2⟩
theorem has_range {x : Port} (h : hasP p x = true) : 0 <= x.elem /\ x.elem < p.elems.length := by
 obtain ⟨h1, h2, h3⟩ := hasP_fin h
 refine kind_range fun e => ?_
 rw [e] at h3
 simp [endsF] at h3
 omega
def doneB (vis : List (Port × Bool)) (zone : List (Int × Bool)) (p : Plan) (y : Port) : Prop := seenB vis y = true \/ (kindP p y.elem = 4 /\ (assoc zone y.elem).isSome = true)
def fullB (p : Plan) (pos : List Int) (shut : List Bool) (st : List Step) (q : List Port) (vis : List (Port × Bool)) (zone : List (Int × Bool)) (x : Port) : Prop :=
 x.elem ∉ st.map (·.elem) -> shutP p shut x = false -> kindP p x.elem ≠ 4 /\ ∀ o, throughP p x.elem x.fin (lieW pos x.elem) = some o -> (assoc zone x.elem).isSome = true /\ ∀ y, nextP p ⟨x.elem, o⟩ = some y -> y ∈ q \/ doneB vis zone p y
def unv (p : Plan) (vis : List (Port × Bool)) : Nat := ((portsP p).filter fun x => !seenB vis x).length
structure RI (p : Plan) (pos : List Int) (shut : List Bool) (st : List Step) (M k : Nat) (q : List Port) (vis : List (Port × Bool)) (zone : List (Int × Bool)) : Prop where
 arr : ∀ x ∈ q, Arr p pos shut st x
 full : ∀ x, seenB vis x = true -> fullB p pos shut st q vis zone x
 init : ∀ x y, x ∈ portsF p st -> nextP p x = some y -> y ∈ q \/ doneB vis zone p y
 zon : ∀ e, (assoc zone e).isSome = true -> ZoneR p pos shut st e
 nodup : (zone.map (·.1)).Nodup
 len : zone.length <= k
 meas : k + q.length + 2 * unv p vis <= M
theorem RI.next {st : List Step} {M k : Nat} {x : Port} {q q' : List Port} {vis vis' : List (Port × Bool)} {zone zone' : List (Int × Bool)} (h : RI p pos shut st M k (x :: q) vis zone)
  (hq : ∀ y ∈ q, y ∈ q') (hq2 : ∀ y ∈ q', Arr p pos shut st y) (hv : ∀ y, seenB vis y = true -> seenB vis' y = true) (hv2 : ∀ y, seenB vis' y = true -> seenB vis y = true \/ y = x)
  (hz : ∀ e, (assoc zone e).isSome = true -> (assoc zone' e).isSome = true) (hz2 : ∀ e, (assoc zone' e).isSome = true -> ZoneR p pos shut st e) (hz3 : (zone'.map (·.1)).Nodup) (hz4 : zone'.length <= zone.length + 1)
  (hx : doneB vis' zone' p x) (hf : seenB vis' x = true -> seenB vis x = false -> fullB p pos shut st q' vis' zone' x) (hm : q'.length + 2 * unv p vis' <= q.length + 2 * unv p vis) : RI p pos shut st M (k + 1) q' vis' zone' := by
 have keep : ∀ y, (y ∈ x :: q \/ doneB vis zone p y) -> y ∈ q' \/ doneB vis' zone' p y := by
  rintro y (hy | hy | ⟨hy, hy2⟩)
  .rcases List.mem_cons.1 hy with rfl | hy
   .exact .inr hx
   .exact .inl (hq y hy)
  .exact .inr (.inl (hv y hy))
  .exact .inr (.inr ⟨hy, hz _ hy2⟩)
 refine ⟨hq2, fun y hy => ?_, fun a y ha hy => keep y (h.init a y ha hy), hz2, hz3, by have := h.len; omega, by have := h.meas; simp only [List.length_cons] at this; omega⟩
 have old : seenB vis y = true -> fullB p pos shut st q' vis' zone' y := fun hy => fun h1 h2 => by
  obtain ⟨g1, g2⟩ := h.full y hy h1 h2
  exact ⟨g1, fun o ho => ⟨hz _ (g2 o ho).1, fun z hz' => keep z ((g2 o ho).2 z hz')⟩⟩
 rcases hv2 y hy with hy' | rfl
 .exact old hy'
 .cases c : seenB vis y with
  | true => exact old c
  | false => exact hf hy c
theorem slO_tail {α : Type} (x : α) (l : List α) : slO (x :: l) 1 (((x :: l).length : Nat) : Int) = some l := by
 show slI (x :: l) _ _ = _
 unfold slI
 rw [if_pos ⟨by omega, by simp; omega, by omega⟩]
 simp
theorem Reach_step (hn : NetOf p n) (hl : r.steps.length <= 1000) (x : Port) (q : List Port) (vis : List (Port × Bool)) (zone : List (Int × Bool)) (hx : 0 <= x.elem) (hq : q.length <= 1000000) :
  r_side_Reach_l2 n pos shut r (x :: q, vis, zone) = some (.inl (if seenB vis x = true \/ x.elem ∈ r.steps.map (·.elem) \/ shutP p shut x = true then (q, aput x true vis, zone) else if kindP p x.elem = 4 then (q, vis, aput x.elem true zone)
   else match throughP p x.elem x.fin (lieW pos x.elem) with
    | none => (q, aput x true vis, zone)
    | some o => match nextP p ⟨x.elem, o⟩ with
     | some y => (q ++ [y], aput x true vis, aput x.elem true zone)
     | none => (q, aput x true vis, aput x.elem true zone))) := by
 have d : decide ((0 : Int) < (((x :: q).length : Nat) : Int)) = true := by simp
 have e0 : idx (x :: q) 0 = some x := rfl
 have eb : (bif (assoc vis x).getD false then some true else (q_m r x.elem).bind fun y850 => bif y850 then some true else bif decide (0 <= readsP p x) then bif decide (readsP p x < (shut.length : Int)) then (idx shut (readsP p x)).bind fun y856 => some y856 else some false else some false : Option Bool) = some (decide (seenB vis x = true \/ x.elem ∈ r.steps.map (·.elem) \/ shutP p shut x = true)) := by
  rw [Own_eq r (by omega)]
  have es : (bif decide (0 <= readsP p x) then bif decide (readsP p x < (shut.length : Int)) then (idx shut (readsP p x)).bind fun y856 => some y856 else some false else some false : Option Bool) = some (shutP p shut x) := by
   unfold shutP
   by_cases c : 0 <= readsP p x
   .by_cases c2 : readsP p x < (shut.length : Int)
    .obtain ⟨a, ha⟩ := idx_of (l := shut) (n := readsP p x) c c2
     simp [c, c2, ha]
    .simp [c, c2, idx_none (l := shut) (.inr (by omega : (shut.length : Int) <= readsP p x))]
   .simp [c]
  unfold seenB
  cases (assoc vis x).getD false with
  | true => simp
  | false =>
   simp only [cond_false, Option.bind_some, Bool.false_eq_true, false_or]
   by_cases c : x.elem ∈ r.steps.map (·.elem)
   .rw [decide_eq_true c]; simp only [cond_true, c, true_or, decide_true]
   .rw [decide_eq_false c]; simp only [cond_false, es, c, false_or]
    cases shutP p shut x <;> rfl
 have el : (bif decide (x.elem < (pos.length : Int)) then (idx pos x.elem).bind fun y876 => some y876 else some 0 : Option (Int)) = some (lieW pos x.elem) := by
  unfold lieW
  by_cases c2 : x.elem < (pos.length : Int)
  .obtain ⟨a, ha⟩ := idx_of (l := pos) (n := x.elem) hx c2
   simp [c2, ha]
  .simp [c2, idx_none (l := pos) (.inr (by omega : (pos.length : Int) <= x.elem))]
 unfold r_side_Reach_l2
 simp only [d, cond_true, e0, slO_tail, Option.bind_some, net_Reads hn, eb, el]
 by_cases c : seenB vis x = true \/ x.elem ∈ r.steps.map (·.elem) \/ shutP p shut x = true
 .rw [if_pos c, decide_eq_true c]; simp only [cond_true]
 .rw [if_neg c, decide_eq_false c]
  simp only [cond_false, net_Kind hn, Option.bind_some]
  by_cases k4 : kindP p x.elem = 4
  .rw [if_pos k4, k4]; rfl
  .rw [if_neg k4]
   have b4 : (kindP p x.elem == 4) = false := beq_eq_false_iff_ne.2 k4
   simp only [b4, cond_false, q_w, net_Through hn, Option.bind_some]
   cases ht : throughP p x.elem x.fin (lieW pos x.elem) with
   | none => rfl
   | some o =>
    simp only [Option.isSome_some, Bool.not_true, cond_false, Option.getD_some, net_Next hn, Option.bind_some]
    cases hy : nextP p ⟨x.elem, o⟩ with
    | none => rfl
    | some y => simp only [Option.isSome_some, cond_true, Option.getD_some, appI_ok (show q.length + [y].length <= 4294967296 by simp; omega), Option.bind_some]
end
end Go.E
/- Plain Lean: the elements that Reach answers are those of ZoneR, ascending (laws SideShut, SideRuns). No condition. -/
namespace Go.E
open Go
theorem isort_strict {l : List Int} (h : l.Nodup) : (isort l).Pairwise (· < ·) := by
 have h1 := isort_rise l
 have h2 : (isort l).Nodup := (isort_perm l).nodup_iff.2 h
 exact (h1.and h2).imp fun {a b} ⟨x, y⟩ => by omega
section
variable {p : Plan} {n : Net} {pos : List Int} {shut : List Bool} {r : Road}
theorem done_all {st : List Step} {M k : Nat} {vis : List (Port × Bool)} {zone : List (Int × Bool)} (h : RI p pos shut st M k [] vis zone) : ∀ {x : Port}, Arr p pos shut st x -> doneB vis zone p x := by
 intro x hx
 induction hx with
 | init h1 h2 => exact (h.init _ _ h1 h2).resolve_left (by simp)
 | step h1 h2 h3 h4 h5 h6 ih =>
  rcases ih with ih | ⟨ih, _⟩
  .obtain ⟨g1, g2⟩ := h.full _ ih h2 h3
   exact ((g2 _ h5).2 _ h6).resolve_left (by simp)
  .exact absurd ih h4
theorem zone_all {st : List Step} {M k : Nat} {vis : List (Port × Bool)} {zone : List (Int × Bool)} (h : RI p pos shut st M k [] vis zone) (e : Int) : e ∈ zone.map (·.1) ↔ ZoneR p pos shut st e := by
 rw [<- assoc_mem]
 refine ⟨h.zon e, ?_⟩
 rintro ⟨x, h1, rfl, h2, h3, h4⟩
 rcases done_all h h1 with hd | ⟨_, hd⟩
 .obtain ⟨g1, g2⟩ := h.full _ hd h2 h3
  rcases h4 with h4 | h4
  .exact absurd h4 g1
  .obtain ⟨o, ho⟩ := Option.isSome_iff_exists.1 h4
   exact (g2 o ho).1
 .exact hd
theorem Arr.in_ports {st : List Step} {x : Port} (h : Arr p pos shut st x) : x ∈ portsP p := by
 obtain ⟨y, hy⟩ := h.from
 exact nextL_mem hy
theorem unv_le {vis : List (Port × Bool)} (x : Port) : unv p (aput x true vis) <= unv p vis :=
 (filter_less (fun z hz => by
  cases hs : seenB vis z with
  | false => rfl
  | true =>
   have := (seenB_aput vis x z).2 (.inr hs)
   simp only [this, Bool.not_true] at hz
   cases hz) (portsP p)).1
theorem unv_lt {vis : List (Port × Bool)} {x : Port} (hx : x ∈ portsP p) (hv : seenB vis x = false) : unv p (aput x true vis) + 1 <= unv p vis :=
 (filter_less (fun z hz => by
  cases hs : seenB vis z with
  | false => rfl
  | true =>
   have := (seenB_aput vis x z).2 (.inr hs)
   simp only [this, Bool.not_true] at hz
   cases hz) (portsP p)).2 x hx (by simp [hv]) (by simp [(seenB_aput vis x x).2 (.inl rfl)])
theorem Reach_round (hv : Valid p) (hn : NetOf p n) (hl : r.steps.length <= 1000) {M k : Nat} (hM : M <= 1000000) {x : Port} {q : List Port} {vis : List (Port × Bool)} {zone : List (Int × Bool)} (h : RI p pos shut r.steps M k (x :: q) vis zone) :
  ∃ s', r_side_Reach_l2 n pos shut r (x :: q, vis, zone) = some (.inl s') /\ RI p pos shut r.steps M (k + 1) s'.1 s'.2.1 s'.2.2 := by
 have hx : Arr p pos shut r.steps x := h.arr x (by simp)
 obtain ⟨w, hw⟩ := hx.from
 have hr := has_range (hv.join.next hw)
 have hm := h.meas
 simp only [List.length_cons] at hm
 have hq2 : ∀ y ∈ q, Arr p pos shut r.steps y := fun y hy => h.arr y (by simp [hy])
 have hself : ∀ vis, seenB (aput x true vis) x = true := fun vis => (seenB_aput vis x x).2 (.inl rfl)
 have hvis : ∀ y, seenB (aput x true vis) y = true -> seenB vis y = true \/ y = x := fun y hy => ((seenB_aput vis x y).1 hy).symm
 have hvis2 : ∀ y, seenB vis y = true -> seenB (aput x true vis) y = true := fun y hy => (seenB_aput vis x y).2 (.inr hy)
 have hul := unv_le (p := p) (vis := vis) x
 refine ⟨_, Reach_step hn hl x q vis zone hr.1 (by omega), ?_⟩
 by_cases c : seenB vis x = true \/ x.elem ∈ r.steps.map (·.elem) \/ shutP p shut x = true
 .rw [if_pos c]
  dsimp only
  refine h.next (fun y hy => hy) hq2 hvis2 hvis (fun e he => he) h.zon h.nodup (by omega) (.inl (hself _)) (fun _ hs h1 h2 => ?_) (by omega)
  rcases c with c | c | c
  .rw [c] at hs; cases hs
  .exact absurd c h1
  .rw [c] at h2; cases h2
 .rw [if_neg c]
  have c1 : seenB vis x = false := by cases hs : seenB vis x with | false => rfl | true => exact absurd (.inl hs) c
  have c2 : x.elem ∉ r.steps.map (·.elem) := fun h => c (.inr (.inl h))
  have c3 : shutP p shut x = false := by cases hs : shutP p shut x with | false => rfl | true => exact absurd (.inr (.inr hs)) c
  have hlt := unv_lt hx.in_ports c1
  by_cases k4 : kindP p x.elem = 4
  .rw [if_pos k4]
   dsimp only
   refine h.next (fun y hy => hy) hq2 (fun y hy => hy) (fun y hy => .inl hy) (fun e he => (aput_isSome _ _ _ _).2 (.inr he)) (fun e he => ?_) (aput_nodup h.nodup) (aput_len _ _ _) (.inr ⟨k4, (aput_isSome _ _ _ _).2 (.inl rfl)⟩) (fun h1 h2 => by rw [c1] at h1; cases h1) (by omega)
   rcases (aput_isSome _ _ _ _).1 he with rfl | he
   .exact ⟨x, hx, rfl, c2, c3, .inl k4⟩
   .exact h.zon e he
  .rw [if_neg k4]
   cases ht : throughP p x.elem x.fin (lieW pos x.elem) with
   | none =>
    dsimp only
    exact h.next (fun y hy => hy) hq2 hvis2 hvis (fun e he => he) h.zon h.nodup (by omega) (.inl (hself _)) (fun _ _ h1 h2 => ⟨k4, fun o ho => by rw [ht] at ho; cases ho⟩) (by omega)
   | some o =>
    dsimp only
    have hz2 : ∀ e, (assoc (aput x.elem true zone) e).isSome = true -> ZoneR p pos shut r.steps e := fun e he => by
     rcases (aput_isSome _ _ _ _).1 he with rfl | he
     .exact ⟨x, hx, rfl, c2, c3, .inr (by rw [ht]; rfl)⟩
     .exact h.zon e he
    cases hy : nextP p ⟨x.elem, o⟩ with
    | none =>
     dsimp only
     refine h.next (fun y hy => hy) hq2 hvis2 hvis (fun e he => (aput_isSome _ _ _ _).2 (.inr he)) hz2 (aput_nodup h.nodup) (aput_len _ _ _) (.inl (hself _)) (fun _ _ h1 h2 => ⟨k4, fun o' ho => ?_⟩) (by omega)
     rw [ht] at ho; cases ho
     exact ⟨(aput_isSome _ _ _ _).2 (.inl rfl), fun y hy' => by rw [hy] at hy'; cases hy'⟩
    | some y =>
     dsimp only
     refine h.next (fun z hz => List.mem_append.2 (.inl hz)) (fun z hz => ?_) hvis2 hvis (fun e he => (aput_isSome _ _ _ _).2 (.inr he)) hz2 (aput_nodup h.nodup) (aput_len _ _ _) (.inl (hself _)) (fun _ _ h1 h2 => ⟨k4, fun o' ho => ?_⟩) (by simp only [List.length_append, List.length_cons, List.length_nil]; omega)
     .rcases List.mem_append.1 hz with hz | hz
      .exact hq2 z hz
      .simp at hz; subst hz; exact .step hx c2 c3 k4 ht hy
     .rw [ht] at ho; cases ho
      exact ⟨(aput_isSome _ _ _ _).2 (.inl rfl), fun z hz => by rw [hy] at hz; cases hz; exact .inl (by simp)⟩
def startQ (p : Plan) (l : List Port) : List Port := l.map fun x => (nextP p x).getD ⟨0, 0⟩
theorem ports_joined {l : List Step} {x : Port} (h : x ∈ portsF p l) : ∃ y, nextP p x = some y := by
 unfold portsF portsS at h
 obtain ⟨s, _, h⟩ := List.mem_flatMap.1 h
 obtain ⟨k, _, h⟩ := List.mem_flatMap.1 h
 unfold joinK at h
 split at h
 .rename_i hs
  simp at h
  subst h
  exact Option.isSome_iff_exists.1 hs
 .simp at h
theorem RI_start (hv : Valid p) (hl : r.steps.length <= 12) : RI p pos shut r.steps 400 0 (startQ p (portsF p r.steps)) [] [] := by
 have h1 := portsF_len (p := p) r.steps
 have hj := hv.nj
 refine ⟨fun y hy => ?_, fun x hx => by simp [seenB, assoc] at hx, fun x y hx hy => .inl ?_, fun e he => by simp [assoc] at he, by simp, by simp, ?_⟩
 .obtain ⟨x, hx, rfl⟩ := List.mem_map.1 hy
  obtain ⟨y, hy⟩ := ports_joined hx
  rw [hy]
  exact .init hx hy
 .exact List.mem_map.2 ⟨x, hx, by rw [hy]; rfl⟩
 .have : unv p [] <= (portsP p).length := List.length_filter_le _ _
  have h2 : (portsP p).length = 2 * p.joins.length := flat_len2 _
  simp only [startQ, List.length_map]
  omega
theorem Reach_spec (hv : Valid p) (hn : NetOf p n) (hl : r.steps.length <= 12) (pos : List Int) (shut : List Bool) : ∃ l, q_27 n pos shut r = some l /\ l.Pairwise (· < ·) /\ (∀ e, e ∈ l ↔ ZoneR p pos shut r.steps e) /\ l.length <= 400 := by
 rw [reach_eq]
 unfold r_side_Reach
 simp only [Ports_eq hn r (by omega), Option.bind_some]
 have hp := portsF_len (p := p) r.steps
 obtain ⟨b, h1, h2⟩ := loop_st (l := portsF p r.steps) (step := r_side_Reach_l1 n pos shut r (portsF p r.steps)) (Post := fun l => l.Pairwise (· < ·) /\ (∀ e, e ∈ l ↔ ZoneR p pos shut r.steps e) /\ l.length <= 400) (fun i q => q = startQ p ((portsF p r.steps).take i)) (c := [])
  (fun q hq => by
   rw [List.take_length] at hq
   subst hq
   obtain ⟨l, h3, h4⟩ := loop_up (step := r_side_Reach_l2 n pos shut r) (Post := fun l => l.Pairwise (· < ·) /\ (∀ e, e ∈ l ↔ ZoneR p pos shut r.steps e) /\ l.length <= 400) (fun k s => RI p pos shut r.steps 400 k s.1 s.2.1 s.2.2) 400 (s := (startQ p (portsF p r.steps), [], [])) (by
    rintro k ⟨q, vis, zone⟩ h
    cases q with
    | nil =>
     left
     have hlen := h.len
     have hm := h.meas
     refine ⟨isort (zone.map (·.1)), ?_, isort_strict h.nodup, fun e => ?_, ?_⟩
     .unfold r_side_Reach_l2 keysF
      simp only at hlen
      rw [if_pos (by simp only; omega)]
      rfl
     .rw [(isort_perm _).mem_iff]; exact zone_all h e
     .rw [(isort_perm _).length_eq, List.length_map]; simp only at hlen; omega
    | cons x q =>
     right
     have hm := h.meas
     simp only [List.length_cons] at hm
     exact ⟨by omega, Reach_round hv hn (by omega) (by omega) h⟩) (RI_start hv hl)
   exact ⟨l, by simp only [r_side_Reach_l1, dge, cond_false, h3, Option.map_some], h4⟩)
  (fun i x q hx hq => by
   have hi := ilt hx
   refine .inr ⟨q ++ [(nextP p x).getD ⟨0, 0⟩], ?_, ?_⟩
   .have : q.length <= 24 := by rw [hq]; unfold startQ; rw [List.length_map, List.length_take]; omega
    simp only [r_side_Reach_l1, dlt hx, cond_true, idx_nat, hx, Option.bind_some, net_Next hn, appI_ok (show q.length + [(nextP p x).getD (⟨0, 0⟩ : Port)].length <= 4294967296 by simp; omega), wi64_succ (show i < 1000000000 by omega)]
   .rw [hq, List.take_add_one, hx]
    unfold startQ
    simp only [Option.toList_some, List.map_append, List.map_cons, List.map_nil])
  rfl
 exact ⟨b, h1, h2⟩
theorem shut_mono {a b : List Bool} (h : ∀ j : Nat, a[j]? = some true -> b[j]? = some true) {x : Port} (hs : shutP p b x = false) : shutP p a x = false := by
 unfold shutP at *
 by_cases c : 0 <= readsP p x
 .obtain ⟨i, hi⟩ := Int.eq_ofNat_of_zero_le c
  rw [hi] at hs ⊢
  simp only [idx_nat, Int.natCast_nonneg, decide_true, Bool.true_and] at hs ⊢
  cases ha : a[i]? with
  | none => rfl
  | some v =>
   cases v with
   | false => rfl
   | true => rw [h i ha] at hs; cases hs
 .simp [c]
theorem Arr.mono {a b : List Bool} (h : ∀ j : Nat, a[j]? = some true -> b[j]? = some true) {st : List Step} {x : Port} (hx : Arr p pos b st x) : Arr p pos a st x := by
 induction hx with
 | init h1 h2 => exact .init h1 h2
 | step h1 h2 h3 h4 h5 h6 ih => exact .step ih h2 (shut_mono h h3) h4 h5 h6
theorem ZoneR.mono {a b : List Bool} (h : ∀ j : Nat, a[j]? = some true -> b[j]? = some true) {st : List Step} {e : Int} (hx : ZoneR p pos b st e) : ZoneR p pos a st e := by
 obtain ⟨x, h1, h2, h3, h4, h5⟩ := hx
 exact ⟨x, h1.mono h, h2, h3, shut_mono h h4, h5⟩
theorem ZoneR.range (hv : Valid p) {st : List Step} {e : Int} (h : ZoneR p pos shut st e) : 0 <= e /\ e < p.elems.length := by
 obtain ⟨x, h1, rfl, _⟩ := h
 obtain ⟨w, hw⟩ := h1.from
 exact has_range (hv.join.next hw)
end
end Go.E
/- Plain Lean: what is reached is in order, outside the road, and no more if more signals are shut (law SideShut); a run that comes in from the side begins in it (law SideRuns). No condition. -/
namespace Go.E
open Go
section
variable {p : Plan} {n : Net} {pos : List Int} {shut : List Bool} {r : Road}
theorem net_Len (hn : NetOf p n) : q_1s n = some (p.elems.length : Int) := by
 unfold q_1s; rw [hn.plan]
end
end Go.E
/- Plain Lean: a run that comes in from the side begins in an element that is reached (law SideRuns). No condition. -/
namespace Go.E
open Go
section
variable {p : Plan} {n : Net} {pos : List Int} {shut : List Bool} {r : Road}
end
end Go.E
/- Plain Lean: what the sides of a road reach: the document's answer and the program's are one (law SideReaches). No condition. -/
namespace Go.E
open Go
section
variable {p : Plan} {n : Net} {pos : List Int} {shut : List Bool} {r : Road}
end
end Go.E
/- The example that the laws of flanks look at, reckoned by the kernel. No condition. -/
namespace Go.E
open Go Go.Proofs
set_option maxRecDepth 100000
end Go.E
/- The example that the laws of proofs look at, reckoned by the kernel. No condition. -/
namespace Go.E
open Go Go.Proofs
set_option maxRecDepth 100000
theorem known12 : q_4z = some true := by kernel_rfl
end Go.E
/- Plain Lean: the flank of a road: how its search begins; a road without side ports (law FlankNone). No condition. -/
namespace Go.E
open Go
theorem contains_int (l : List Int) (hl : l.length < 1000000) (x : Int) : q_1 l x = some (decide (x ∈ l)) := by
 unfold q_1 q_24
 obtain ⟨t, h1, h2⟩ := index_loop (l := l) (f := fun a => x == a) hl (step := q_j l x) (by simp [q_j]) (fun i a ha => by
  have := ilt ha
  simp only [q_j, dlt ha, cond_true, idx_nat, ha, Option.bind_some, wi64_succ (show i < 1000000000 by omega)]
  cases hb : (x == a) <;> simp)
 rw [h1]
 simp only [Option.bind_some, Option.some.injEq]
 rcases h2 with ⟨rfl, h2⟩ | ⟨a, h0, h2, _⟩
 .have : x ∉ l := fun h => by have := List.find?_eq_none.1 h2 x h; simp at this
  simp [this]
 .have hm := List.mem_of_find?_eq_some h2
  have he := List.find?_some h2
  simp only [beq_iff_eq] at he
  subst he
  simp [h0, hm]
theorem contains_need (l : List Need) (hl : l.length < 1000000) (x : Need) : q_6 l x = some (decide (x ∈ l)) := by
 unfold q_6 q_14
 obtain ⟨t, h1, h2⟩ := index_loop (l := l) (f := fun a => x == a) hl (step := q_b l x) (by simp [q_b]) (fun i a ha => by
  have := ilt ha
  simp only [q_b, dlt ha, cond_true, idx_nat, ha, Option.bind_some, wi64_succ (show i < 1000000000 by omega)]
  cases hb : (x == a) <;> simp)
 rw [h1]
 simp only [Option.bind_some, Option.some.injEq]
 rcases h2 with ⟨rfl, h2⟩ | ⟨a, h0, h2, _⟩
 .have : x ∉ l := fun h => by have := List.find?_eq_none.1 h2 x h; simp at this
  simp [this]
 .have hm := List.mem_of_find?_eq_some h2
  have he := List.find?_some h2
  simp only [beq_iff_eq] at he
  subst he
  simp [h0, hm]
section
variable {p : Plan} {n : Net} {r : Road}
theorem flank_start (hv : Valid p) (hn : NetOf p n) (h1 : r.steps.length <= 12) (h2 : r.needs.length <= 1000) : q_1w n r = loopR (q_s n r r.steps r.needs p) (false, [], [], [], [], (startQ p (portsF p r.steps)).reverse) := by
 unfold q_1w
 have e1 : q_5 r.steps = some r.steps := clone_eq _ (by omega)
 have e2 : q_7 r.needs = some r.needs := clone_eq _ (by omega)
 have e3 : q_e n = some p := by unfold q_e; rw [hn.plan, twin_eq p hv.few]; rfl
 simp only [e1, e2, e3, Option.bind_some, Ports_eq hn (⟨r.frm, r.to, r.fin, r.steps, r.needs, [], [], [], false⟩ : Road) (show r.steps.length <= 1000 by omega)]
 have hp := portsF_len (p := p) r.steps
 generalize hL : portsF p r.steps = L at hp
 have key : ∀ (k : Nat) (q : List Port), k <= L.length -> q = (startQ p (L.drop k)).reverse -> loopR (q_1v n r r.steps r.needs p L) ((k : Int) - 1, q) = loopR (q_s n r r.steps r.needs p) (false, [], [], [], [], (startQ p L).reverse) := by
  intro k
  induction k with
  | zero =>
   intro q _ hq
   rw [List.drop_zero] at hq
   subst hq
   cases hr : loopR (q_s n r r.steps r.needs p) (false, [], [], [], [], (startQ p L).reverse) with
   | some b =>
    refine loopR_inr ?_
    have d : decide ((0 : Int) <= ((0 : Nat) : Int) - 1) = false := by decide
    simp only [q_1v, d, cond_false, hr, Option.map_some]
   | none =>
    rw [loopR_eq]
    have d : decide ((0 : Int) <= ((0 : Nat) : Int) - 1) = false := by decide
    simp only [q_1v, d, cond_false, hr, Option.map_none]
  | succ k ih =>
   intro q hk hq
   obtain ⟨x, hx⟩ : ∃ x, L[k]? = some x := ⟨_, List.getElem?_eq_getElem (by omega)⟩
   have hql : q.length <= 24 := by rw [hq]; unfold startQ; simp; omega
   have hd : L.drop k = x :: L.drop (k + 1) := by
    obtain ⟨h, e⟩ := List.getElem?_eq_some_iff.1 hx
    rw [List.drop_eq_getElem_cons h, e]
   rw [<- ih (q ++ [(nextP p x).getD ⟨0, 0⟩]) (by omega) (by rw [hd, hq]; unfold startQ; simp)]
   refine loopR_inl ?_
   have d : decide ((0 : Int) <= (k : Int)) = true := decide_eq_true (by omega)
   have e : (((k + 1 : Nat) : Int) - 1) = (k : Int) := by omega
   have w : wi64 ((k : Int) - 1) = (k : Int) - 1 := by rw [wi64_id] <;> omega
   simp only [q_1v, d, cond_true, e, idx_nat, hx, Option.bind_some, net_Next hn, appI_ok (show q.length + [(nextP p x).getD (⟨0, 0⟩ : Port)].length <= 4294967296 by simp; omega), w]
 have w : wi64 ((L.length : Int) - 1) = (L.length : Int) - 1 := by rw [wi64_id] <;> omega
 rw [w]
 exact key L.length [] (Nat.le_refl _) (by simp [startQ])
end
end Go.E
/- Plain Lean: the flank of a road: one round of its search; what holds behind it. No condition. -/
namespace Go.E
open Go
section
variable {p : Plan} {n : Net} {r : Road}
def takeZ (b : Bool) (z : List Int) (e : Int) : Bool × Bool × List Int := if e ∈ z then (true, b, z) else if 12 <= z.length then (false, true, z) else (true, b, z ++ [e])
def pushN (p : Plan) (l : List Port) (x : Port) : List Port := match nextP p x with
 | some y => l ++ [y]
 | none => l
abbrev FS := Bool × List (Port × Bool) × List Need × List Int × List Int × List Port
def fstep (p : Plan) (st : List Step) (nd : List Need) (b : Bool) (vis : List (Port × Bool)) (g : List Need) (z h : List Int) (l : List Port) (x : Port) : FS :=
 if x.elem ∈ st.map (·.elem) \/ seenB vis x = true then (b, vis, g, z, h, l)
 else if 0 <= readsP p x /\ p.hard = false then (b, aput x true vis, g, z, if readsP p x ∈ h then h else h ++ [readsP p x], l)
 else if kindP p x.elem = 4 then (true, aput x true vis, g, z, h, l)
 else if kindP p x.elem = 2 then
  if x.fin = 0 then ((takeZ b z x.elem).2.1, aput x true vis, g, (takeZ b z x.elem).2.2, h, if (takeZ b z x.elem).1 then pushN p (pushN p l ⟨x.elem, 2⟩) ⟨x.elem, 1⟩ else l)
  else if ⟨x.elem, x.fin⟩ ∈ nd \/ ⟨x.elem, x.fin⟩ ∈ g then ((takeZ b z x.elem).2.1, aput x true vis, g, (takeZ b z x.elem).2.2, h, if (takeZ b z x.elem).1 then pushN p l ⟨x.elem, 0⟩ else l)
  else (b, aput x true vis, if ⟨x.elem, wi64 (3 - x.fin)⟩ ∈ g then g else g ++ [⟨x.elem, wi64 (3 - x.fin)⟩], z, h, l)
 else match throughP p x.elem x.fin 0 with
  | none => (b, aput x true vis, g, z, h, l)
  | some o => ((takeZ b z x.elem).2.1, aput x true vis, g, (takeZ b z x.elem).2.2, h, if (takeZ b z x.elem).1 then pushN p l ⟨x.elem, o⟩ else l)
theorem takeZ_eq (b : Bool) (z : List Int) (e : Int) (hz : z.length <= 1000) : ((q_1 z e).bind fun y => bif y then some (true, b, z) else bif decide (12 <= (z.length : Int)) then some (false, true, z) else (appI z [e]).bind fun y' => some (true, b, y') : Option (Bool × Bool × List Int)) = some (takeZ b z e) := by
 rw [contains_int z (by omega)]
 unfold takeZ
 simp only [Option.bind_some]
 by_cases c : e ∈ z
 .rw [decide_eq_true c, if_pos c]; rfl
 .rw [decide_eq_false c, if_neg c]
  by_cases d : 12 <= z.length
  .rw [if_pos d, decide_eq_true (show (12 : Int) <= (z.length : Int) by omega)]; rfl
  .rw [if_neg d, decide_eq_false (show ¬ (12 : Int) <= (z.length : Int) by omega)]
   simp only [cond_false, appI_ok (show z.length + [e].length <= 4294967296 by simp; omega), Option.bind_some]
theorem pushN_eq (hn : NetOf p n) (l : List Port) (x : Port) (hl : l.length <= 1000000) : ((q_0 n x).bind fun y => bif y.2 then (appI l [y.1]).bind fun y' => some y' else some l : Option (List Port)) = some (pushN p l x) := by
 rw [net_Next hn]
 unfold pushN
 cases nextP p x with
 | none => rfl
 | some y => simp only [Option.bind_some, Option.isSome_some, Option.getD_some, cond_true, appI_ok (show l.length + [y].length <= 4294967296 by simp; omega)]
theorem pushN_len (l : List Port) (x : Port) : (pushN p l x).length <= l.length + 1 := by unfold pushN; split <;> simp
theorem flank_step (hn : NetOf p n) (h1 : r.steps.length <= 12) (h2 : r.needs.length <= 1000) (b : Bool) (vis : List (Port × Bool)) (g : List Need) (z h : List Int) (l : List Port) (x : Port) (hg : g.length <= 1000) (hz : z.length <= 1000) (hh : h.length <= 1000) (hl : l.length <= 1000) :
  q_s n r r.steps r.needs p (b, vis, g, z, h, l ++ [x]) = some (.inl (fstep p r.steps r.needs b vis g z h l x)) := by
 have d : decide ((0 : Int) < (((l ++ [x]).length : Nat) : Int)) = true := by simp
 have w := wl_snoc l x (by omega)
 have i1 := idx_sn x (rfl : l.length = l.length)
 have s1 := slO_at x (rfl : l.length = l.length)
 have own := Own_eq (⟨r.frm, r.to, r.fin, r.steps, r.needs, g, z, h, b⟩ : Road) (show r.steps.length < 1000000 by omega) x.elem
 have tz := takeZ_eq b z x.elem hz
 have vb : (assoc vis x).getD false = seenB vis x := rfl
 unfold q_s fstep
 simp only [d, cond_true, w, i1, s1, own, Option.bind_some, vb]
 by_cases c : x.elem ∈ r.steps.map (·.elem) \/ seenB vis x = true
 .rw [if_pos c]
  rcases c with c | c
  .rw [decide_eq_true c]; rfl
  .rw [c]; cases decide (x.elem ∈ r.steps.map (·.elem)) <;> rfl
 .rw [if_neg c]
  have c1 : x.elem ∉ r.steps.map (·.elem) := fun h => c (.inl h)
  have c2 : seenB vis x = false := by cases hs : seenB vis x with | false => rfl | true => exact absurd (.inr hs) c
  rw [decide_eq_false c1, c2]
  simp only [cond_false, Option.bind_some, net_Reads hn]
  by_cases k1 : 0 <= readsP p x /\ p.hard = false
  .rw [if_pos k1, decide_eq_true k1.1, k1.2]
   simp only [cond_true, Bool.not_false, Option.bind_some, contains_int h (show h.length < 1000000 by omega)]
   by_cases m : readsP p x ∈ h
   .rw [decide_eq_true m, if_pos m]; rfl
   .rw [decide_eq_false m, if_neg m]
    simp only [Bool.not_false, cond_true, appI_ok (show h.length + [readsP p x].length <= 4294967296 by simp; omega), Option.bind_some]
  .rw [if_neg k1]
   have eb : (bif decide (0 <= readsP p x) then some (!p.hard) else some false : Option Bool) = some false := by
    by_cases a : 0 <= readsP p x
    .rw [decide_eq_true a]
     cases hp : p.hard with
     | true => rfl
     | false => exact absurd ⟨a, hp⟩ k1
    .rw [decide_eq_false a]; rfl
   simp only [eb, Option.bind_some, cond_false, net_Kind hn]
   by_cases k4 : kindP p x.elem = 4
   .rw [if_pos k4, k4]; rfl
   .rw [if_neg k4]
    have b4 : (kindP p x.elem == 4) = false := beq_eq_false_iff_ne.2 k4
    simp only [b4, cond_false]
    by_cases k2 : kindP p x.elem = 2
    .rw [if_pos k2, k2]
     simp only [beq_self_eq_true, cond_true]
     by_cases f0 : x.fin = 0
     .rw [if_pos f0]
      have bf : (x.fin == 0) = true := by simp [f0]
      simp only [bf, cond_true, tz, Option.bind_some]
      have q1 := pushN_len (p := p) l ⟨x.elem, 2⟩
      cases ht : (takeZ b z x.elem).1 with
      | true => simp only [cond_true, pushN_eq hn l ⟨x.elem, 2⟩ (by omega), Option.bind_some, pushN_eq hn (pushN p l ⟨x.elem, 2⟩) ⟨x.elem, 1⟩ (by omega), if_true]
      | false => simp only [cond_false, Option.bind_some, Bool.false_eq_true, if_false]
     .rw [if_neg f0]
      have bf : (x.fin == 0) = false := beq_eq_false_iff_ne.2 f0
      simp only [bf, cond_false, contains_need r.needs (show r.needs.length < 1000000 by omega), contains_need g (show g.length < 1000000 by omega), Option.bind_some]
      have en : (bif decide ((⟨x.elem, x.fin⟩ : Need) ∈ r.needs) then some true else some (decide ((⟨x.elem, x.fin⟩ : Need) ∈ g)) : Option Bool) = some (decide ((⟨x.elem, x.fin⟩ : Need) ∈ r.needs \/ (⟨x.elem, x.fin⟩ : Need) ∈ g)) := by
       by_cases a : (⟨x.elem, x.fin⟩ : Need) ∈ r.needs
       .simp [a]
       .simp [a]
      simp only [en, Option.bind_some]
      by_cases a : (⟨x.elem, x.fin⟩ : Need) ∈ r.needs \/ (⟨x.elem, x.fin⟩ : Need) ∈ g
      .rw [if_pos a, decide_eq_true a]
       simp only [cond_true, tz, Option.bind_some]
       cases ht : (takeZ b z x.elem).1 with
       | true => simp only [cond_true, pushN_eq hn l ⟨x.elem, 0⟩ (by omega), Option.bind_some, if_true]
       | false => simp only [cond_false, Option.bind_some, Bool.false_eq_true, if_false]
      .rw [if_neg a, decide_eq_false a]
       simp only [cond_false]
       by_cases m : (⟨x.elem, wi64 (3 - x.fin)⟩ : Need) ∈ g
       .rw [decide_eq_true m, if_pos m]; rfl
       .rw [decide_eq_false m, if_neg m]
        simp only [Bool.not_false, cond_true, appI_ok (show g.length + [(⟨x.elem, wi64 (3 - x.fin)⟩ : Need)].length <= 4294967296 by simp; omega), Option.bind_some]
    .rw [if_neg k2]
     have b2 : (kindP p x.elem == 2) = false := beq_eq_false_iff_ne.2 k2
     simp only [b2, cond_false, q_w, net_Through hn, Option.bind_some]
     cases ht : throughP p x.elem x.fin 0 with
     | none => rfl
     | some o =>
      simp only [Option.isSome_some, cond_true, Option.getD_some, tz, Option.bind_some]
      cases htz : (takeZ b z x.elem).1 with
      | true => simp only [cond_true, pushN_eq hn l ⟨x.elem, o⟩ (by omega), Option.bind_some, if_true]
      | false => simp only [cond_false, Bool.false_eq_true, if_false]
end
end Go.E
/- Plain Lean: the flank of a road: what holds of zone, guards and holds; the search ends (laws FlankAgain, FlankApart). No condition. -/
namespace Go.E
open Go
section
variable {p : Plan} {n : Net} {r : Road}
structure ZOK (p : Plan) (st : List Step) (z : List Int) : Prop where
 len : z.length <= 12
 nd : z.Nodup
 own : ∀ e ∈ z, e ∉ st.map (·.elem) /\ kindP p e ≠ 4
 rng : ∀ e ∈ z, kindP p e ≠ 0
structure GOK (p : Plan) (st : List Step) (g : List Need) : Prop where
 ok : ∀ m ∈ g, m.elem ∉ st.map (·.elem) /\ kindP p m.elem = 2 /\ (m.pos = 1 \/ m.pos = 2)
 nd : g.Pairwise (fun a b => a.elem ≠ b.elem)
theorem takeZ_ok {st : List Step} {b : Bool} {z : List Int} {e : Int} (h : ZOK p st z) (h1 : e ∉ st.map (·.elem)) (h2 : kindP p e ≠ 4) (h3 : kindP p e ≠ 0) : ZOK p st (takeZ b z e).2.2 := by
 unfold takeZ
 split
 .exact h
 .rename_i hm
  split
  .exact h
  .rename_i hl
   refine ⟨by simp; omega, ?_, fun a ha => ?_, fun a ha => ?_⟩
   .simp only
    rw [List.nodup_append]
    exact ⟨h.nd, by simp, fun a ha c hc => by simp at hc; subst hc; intro e; subst e; exact hm ha⟩
   .rcases List.mem_append.1 ha with ha | ha
    .exact h.own a ha
    .simp at ha; subst ha; exact ⟨h1, h2⟩
   .rcases List.mem_append.1 ha with ha | ha
    .exact h.rng a ha
    .simp at ha; subst ha; exact h3
theorem next_port {x y : Port} (h : nextP p x = some y) : y ∈ portsP p := nextL_mem h
theorem pushN_mem {l : List Port} {x y : Port} (h : y ∈ pushN p l x) : y ∈ l \/ y ∈ portsP p := by
 unfold pushN at h
 cases hx : nextP p x with
 | none => rw [hx] at h; exact .inl h
 | some z =>
  rw [hx] at h
  rcases List.mem_append.1 h with h | h
  .exact .inl h
  .simp at h; subst h; exact .inr (next_port hx)
structure FI (p : Plan) (st : List Step) (M k : Nat) (vis : List (Port × Bool)) (g : List Need) (z h : List Int) (l : List Port) : Prop where
 zok : ZOK p st z
 gok : GOK p st g
 hold : p.hard = true -> h = []
 port : ∀ x ∈ l, x ∈ portsP p
 lg : g.length <= k
 lh : h.length <= k
 meas : k + l.length + 3 * unv p vis <= M
theorem FI_step (hv : Valid p) {st : List Step} {nd : List Need} {M k : Nat} {b : Bool} {vis : List (Port × Bool)} {g : List Need} {z h : List Int} {l : List Port} {x : Port} (hi : FI p st M k vis g z h (l ++ [x])) {s : FS} (hs : s = fstep p st nd b vis g z h l x) :
  FI p st M (k + 1) s.2.1 s.2.2.1 s.2.2.2.1 s.2.2.2.2.1 s.2.2.2.2.2 := by
 have hm := hi.meas
 simp only [List.length_append, List.length_cons, List.length_nil] at hm
 have hx : x ∈ portsP p := hi.port x (by simp)
 have hl : ∀ y ∈ l, y ∈ portsP p := fun y hy => hi.port y (by simp [hy])
 have hlg := hi.lg
 have hlh := hi.lh
 have hul := unv_le (p := p) (vis := vis) x
 have hhas : hasP p x = true := by
  obtain ⟨i, hi⟩ := List.mem_iff_getElem?.1 hx
  exact hv.join.has i x hi
 unfold fstep at hs
 by_cases c : x.elem ∈ st.map (·.elem) \/ seenB vis x = true
 .rw [if_pos c] at hs
  subst hs
  exact ⟨hi.zok, hi.gok, hi.hold, hl, by dsimp only; omega, by dsimp only; omega, by dsimp only; omega⟩
 .rw [if_neg c] at hs
  have c1 : x.elem ∉ st.map (·.elem) := fun h => c (.inl h)
  have c2 : seenB vis x = false := by cases hs : seenB vis x with | false => rfl | true => exact absurd (.inr hs) c
  have hlt := unv_lt hx c2
  by_cases k1 : 0 <= readsP p x /\ p.hard = false
  .rw [if_pos k1] at hs
   subst hs
   refine ⟨hi.zok, hi.gok, fun hh => (by rw [k1.2] at hh; cases hh), hl, by dsimp only; omega, ?_, by dsimp only; omega⟩
   dsimp only
   split
   .omega
   .simp; omega
  .rw [if_neg k1] at hs
   by_cases k4 : kindP p x.elem = 4
   .rw [if_pos k4] at hs
    subst hs
    exact ⟨hi.zok, hi.gok, hi.hold, hl, by dsimp only; omega, by dsimp only; omega, by dsimp only; omega⟩
   .rw [if_neg k4] at hs
    have k0 : kindP p x.elem ≠ 0 := fun e => by
     obtain ⟨f1, f2, f3⟩ := hasP_fin hhas
     rw [e] at f3
     simp [endsF] at f3
     omega
    have hz := takeZ_ok (b := b) hi.zok c1 k4 k0
    have p1 : ∀ y, (pushN p l y).length <= l.length + 1 := fun y => pushN_len l y
    by_cases k2 : kindP p x.elem = 2
    .rw [if_pos k2] at hs
     by_cases f0 : x.fin = 0
     .rw [if_pos f0] at hs
      subst hs
      refine ⟨hz, hi.gok, hi.hold, fun y hy => ?_, by dsimp only; omega, by dsimp only; omega, ?_⟩
      .dsimp only at hy
       split at hy
       .rcases pushN_mem hy with hy | hy
        .rcases pushN_mem hy with hy | hy
         .exact hl y hy
         .exact hy
        .exact hy
       .exact hl y hy
      .dsimp only
       have q1 := p1 ⟨x.elem, 2⟩
       have q2 := pushN_len (p := p) (pushN p l ⟨x.elem, 2⟩) ⟨x.elem, 1⟩
       split <;> omega
     .rw [if_neg f0] at hs
      by_cases a : (⟨x.elem, x.fin⟩ : Need) ∈ nd \/ (⟨x.elem, x.fin⟩ : Need) ∈ g
      .rw [if_pos a] at hs
       subst hs
       refine ⟨hz, hi.gok, hi.hold, fun y hy => ?_, by dsimp only; omega, by dsimp only; omega, ?_⟩
       .dsimp only at hy
        split at hy
        .rcases pushN_mem hy with hy | hy
         .exact hl y hy
         .exact hy
        .exact hl y hy
       .dsimp only
        have q1 := p1 ⟨x.elem, 0⟩
        split <;> omega
      .rw [if_neg a] at hs
       subst hs
       obtain ⟨f1, f2, f3⟩ := hasP_fin hhas
       rw [k2] at f3
       simp [endsF] at f3
       have hw : wi64 (3 - x.fin) = 3 - x.fin := by rw [wi64_id] <;> omega
       refine ⟨hi.zok, ?_, hi.hold, hl, ?_, by dsimp only; omega, by dsimp only; omega⟩
       .dsimp only
        split
        .exact hi.gok
        .rename_i hng
         refine ⟨fun m hm => ?_, ?_⟩
         .rcases List.mem_append.1 hm with hm | hm
          .exact hi.gok.ok m hm
          .simp at hm; subst hm; exact ⟨c1, k2, by rw [hw]; simp only; omega⟩
         .rw [List.pairwise_append]
          refine ⟨hi.gok.nd, by simp, fun m hm q hq => ?_⟩
          simp at hq
          subst hq
          intro he
          simp only at he
          obtain ⟨_, _, hp⟩ := hi.gok.ok m hm
          have e1 : m = ⟨x.elem, m.pos⟩ := by cases m; simp only at he; subst he; rfl
          by_cases e : m.pos = x.fin
          .rw [e] at e1; rw [e1] at hm; exact a (.inr hm)
          .have : m.pos = 3 - x.fin := by omega
           rw [this, <- hw] at e1; rw [e1] at hm; exact hng hm
       .dsimp only
        split
        .omega
        .simp; omega
    .rw [if_neg k2] at hs
     cases ht : throughP p x.elem x.fin 0 with
     | none =>
      rw [ht] at hs
      subst hs
      exact ⟨hi.zok, hi.gok, hi.hold, hl, by dsimp only; omega, by dsimp only; omega, by dsimp only; omega⟩
     | some o =>
      rw [ht] at hs
      subst hs
      refine ⟨hz, hi.gok, hi.hold, fun y hy => ?_, by dsimp only; omega, by dsimp only; omega, ?_⟩
      .dsimp only at hy
       split at hy
       .rcases pushN_mem hy with hy | hy
        .exact hl y hy
        .exact hy
       .exact hl y hy
      .dsimp only
       have q1 := p1 ⟨x.elem, o⟩
       split <;> omega
theorem flank_total (hv : Valid p) (hn : NetOf p n) (h1 : r.steps.length <= 12) (h2 : r.needs.length <= 1000) : ∃ g z h b, q_1w n r = some ⟨r.frm, r.to, r.fin, r.steps, r.needs, g, z, h, b⟩ /\ ZOK p r.steps z /\ GOK p r.steps g /\ (p.hard = true -> h = []) /\ g.length <= 700 /\ h.length <= 700 := by
 have hj := hv.nj
 have hp := portsF_len (p := p) r.steps
 rw [flank_start hv hn h1 h2]
 obtain ⟨R, e1, g, z, h, b, rfl, e2⟩ := loop_up (step := q_s n r r.steps r.needs p) (Post := fun R => ∃ g z h b, R = (⟨r.frm, r.to, r.fin, r.steps, r.needs, g, z, h, b⟩ : Road) /\ ZOK p r.steps z /\ GOK p r.steps g /\ (p.hard = true -> h = []) /\ g.length <= 700 /\ h.length <= 700)
  (fun k s => FI p r.steps 700 k s.2.1 s.2.2.1 s.2.2.2.1 s.2.2.2.2.1 s.2.2.2.2.2) 700 (s := (false, [], [], [], [], (startQ p (portsF p r.steps)).reverse)) (by
   rintro k ⟨b, vis, g, z, h, l⟩ hi
   have hm := hi.meas
   have hlg := hi.lg
   have hlh := hi.lh
   have hzl := hi.zok.len
   dsimp only at hm hlg hlh hzl hi
   rcases List.eq_nil_or_concat l with rfl | ⟨l', x, rfl⟩
   .left
    exact ⟨_, rfl, g, z, h, b, rfl, hi.zok, hi.gok, hi.hold, by omega, by omega⟩
   .right
    rw [List.concat_eq_append] at hi hm ⊢
    simp only [List.length_append, List.length_cons, List.length_nil] at hm
    refine ⟨by omega, _, flank_step hn h1 h2 b vis g z h l' x (by omega) (by omega) (by omega) (by omega), FI_step hv hi rfl⟩) (by
   refine ⟨⟨by simp, by simp, by simp, by simp⟩, ⟨by simp, by simp⟩, fun _ => rfl, fun y hy => ?_, by simp, by simp, ?_⟩
   .have := List.mem_reverse.1 hy
    obtain ⟨x, hx, rfl⟩ := List.mem_map.1 this
    obtain ⟨y, hy⟩ := ports_joined hx
    rw [hy]
    exact next_port hy
   .have h3 : unv p [] <= (portsP p).length := List.length_filter_le _ _
    have h4 : (portsP p).length = 2 * p.joins.length := flat_len2 _
    simp only [startQ, List.length_reverse, List.length_map]
    omega)
 exact ⟨g, z, h, b, e1, e2⟩
end
end Go.E
/- Plain Lean: zone, guards and holds of a road's flank (law FlankApart). No condition. -/
namespace Go.E
open Go
section
variable {p : Plan} {n : Net} {r : Road}
end
end Go.E
/- Plain Lean: one call of the document's search for the flank, in a clean form. No condition. -/
namespace Go.E
open Go
section
variable {p : Plan} {n : Net} {r : Road}
end
end Go.E
/- Plain Lean: the document's search for the flank and the program's loop: one call is as good as one port on the stack. No condition. -/
namespace Go.E
open Go
section
variable {p : Plan} {n : Net} {r : Road}
end
end Go.E
/- Plain Lean: the flank of a road: the document's answer and the program's are one (law FlankOfs). No condition. -/
namespace Go.E
open Go
section
variable {p : Plan} {n : Net} {r : Road}
end
end Go.E
/- Plain Lean: whether a road is ready, by the program and by the document (law FlankReady). No condition. -/
namespace Go.E
open Go
theorem any_loop {α β : Type} {l : List α} {step : Int -> Option (Int ⊕ β)} (bad : α -> Bool) (x : β) (fin : Option β) (h0 : step (l.length : Int) = fin.map .inr)
  (h1 : ∀ (i : Nat) a, l[i]? = some a -> step (i : Int) = if bad a = true then some (.inr x) else some (.inl ((i + 1 : Nat) : Int))) : loopR step 0 = if l.any bad = true then some x else fin := by
 refine loop_list (γ := Unit) l (fun i _ => (i : Int)) (fun _ _ r => if r.any bad = true then some x else fin) (fun _ => ?_) (fun i c a r ha hi => ?_) ()
 .simpa using h0
 .rw [h1 i a ha]
  cases hb : bad a with
  | true => left; simp [hb]
  | false => right; exact ⟨(), by simp, by simp [hb]⟩
end Go.E
/- Plain Lean: a road that is ready is so no more when one thing is otherwise (law FlankOne). No condition. -/
namespace Go.E
open Go
section
variable {p : Plan} {n : Net} {r : Road}
theorem idx_set {α : Type} {l : List α} {e : Int} {v : α} (h0 : 0 <= e) (h1 : e < (l.length : Int)) : idx (setI l e v) e = some v := by
 obtain ⟨k, rfl⟩ := Int.eq_ofNat_of_zero_le h0
 show (l.set (k : Int).toNat v)[k]? = _
 rw [Int.toNat_natCast, List.getElem?_set_self (by omega)]
end
end Go.E
/- Plain Lean: what a road's flank keeps: nobody comes in but from its zone (law FlankKeeps). No condition. -/
namespace Go.E
open Go
section
variable {p : Plan} {n : Net} {r : Road}
def atK (st : List Step) (vis : List (Port × Bool)) (l : List Port) (y : Port) : Prop := y ∈ l \/ seenB vis y = true \/ y.elem ∈ st.map (·.elem)
structure RecK (p : Plan) (nd g : List Need) (z h : List Int) (at_ : Port -> Prop) (x : Port) : Prop where
 held : 0 <= readsP p x /\ p.hard = false -> readsP p x ∈ h
 gate : ¬ (0 <= readsP p x /\ p.hard = false) -> kindP p x.elem ≠ 4
 toe : ¬ (0 <= readsP p x /\ p.hard = false) -> kindP p x.elem = 2 -> x.fin = 0 -> x.elem ∈ z /\ ∀ o, (o = 1 \/ o = 2) -> ∀ y, nextP p ⟨x.elem, o⟩ = some y -> at_ y
 leg : ¬ (0 <= readsP p x /\ p.hard = false) -> kindP p x.elem = 2 -> x.fin ≠ 0 -> (x.elem ∈ z /\ ∀ y, nextP p ⟨x.elem, 0⟩ = some y -> at_ y) \/ (⟨x.elem, wi64 (3 - x.fin)⟩ : Need) ∈ g
 other : ¬ (0 <= readsP p x /\ p.hard = false) -> kindP p x.elem ≠ 2 -> ∀ o, throughP p x.elem x.fin 0 = some o -> x.elem ∈ z /\ ∀ y, nextP p ⟨x.elem, o⟩ = some y -> at_ y
theorem RecK.mono {nd g g' : List Need} {z z' h h' : List Int} {a a' : Port -> Prop} {x : Port} (hk : RecK p nd g z h a x) (hg : ∀ m ∈ g, m ∈ g') (hz : ∀ m ∈ z, m ∈ z') (hh : ∀ m ∈ h, m ∈ h') (ha : ∀ y, a y -> a' y) : RecK p nd g' z' h' a' x :=
 ⟨fun c => hh _ (hk.held c), hk.gate, fun c k f => ⟨hz _ (hk.toe c k f).1, fun o ho y hy => ha _ ((hk.toe c k f).2 o ho y hy)⟩,
  fun c k f => (hk.leg c k f).imp (fun q => ⟨hz _ q.1, fun y hy => ha _ (q.2 y hy)⟩) (hg _), fun c k o ho => ⟨hz _ (hk.other c k o ho).1, fun y hy => ha _ ((hk.other c k o ho).2 y hy)⟩⟩
structure KI (p : Plan) (st : List Step) (nd : List Need) (b : Bool) (vis : List (Port × Bool)) (g : List Need) (z h : List Int) (l : List Port) : Prop where
 seen : b = false -> ∀ x, seenB vis x = true -> RecK p nd g z h (atK st vis l) x
 init : ∀ x y, x ∈ portsF p st -> nextP p x = some y -> atK st vis l y
theorem KI.next {st : List Step} {nd : List Need} {b b' : Bool} {vis vis' : List (Port × Bool)} {g g' : List Need} {z z' h h' : List Int} {l l' : List Port} {x : Port} (hi : KI p st nd b vis g z h (l ++ [x]))
  (hb : b' = false -> b = false) (hv : ∀ y, seenB vis y = true -> seenB vis' y = true) (hv2 : ∀ y, seenB vis' y = true -> seenB vis y = true \/ y = x) (hl : ∀ y ∈ l, y ∈ l') (hx : seenB vis' x = true \/ x.elem ∈ st.map (·.elem))
  (hg : ∀ m ∈ g, m ∈ g') (hz : ∀ m ∈ z, m ∈ z') (hh : ∀ m ∈ h, m ∈ h') (hr : b' = false -> seenB vis x = false -> seenB vis' x = true -> RecK p nd g' z' h' (atK st vis' l') x) : KI p st nd b' vis' g' z' h' l' := by
 have ha : ∀ y, atK st vis (l ++ [x]) y -> atK st vis' l' y := by
  rintro y (hy | hy | hy)
  .rcases List.mem_append.1 hy with hy | hy
   .exact .inl (hl y hy)
   .simp at hy; subst hy; exact .inr hx
  .exact .inr (.inl (hv y hy))
  .exact .inr (.inr hy)
 refine ⟨fun hb' y hy => ?_, fun y q hy hq => ha q (hi.init y q hy hq)⟩
 cases hs : seenB vis y with
 | true => exact (hi.seen (hb hb') y hs).mono hg hz hh ha
 | false =>
  rcases hv2 y hy with hy2 | rfl
  .rw [hs] at hy2; cases hy2
  .exact hr hb' hs hy
end
end Go.E
/- Plain Lean: whether a road's flank keeps all others out, told without an order (KeptG, GuardP), and the program's answer. No condition. -/
namespace Go.E
open Go
def layN (nl : List Need) (e : Int) : Option Int := (nl.find? fun m => m.elem == e).map (·.pos)
def backW (lay : Int -> Option Int) (e : Int) (w : Way) : List Int := if w.pos = 0 \/ lay e = none \/ lay e = some w.pos then [w.out] else []
def backsP (p : Plan) (lay : Int -> Option Int) (x : Port) : List Int := (outsP p x.elem x.fin).flatMap (backW lay x.elem)
def shutG (p : Plan) (holds : List Int) (x : Port) : Prop := p.hard = false /\ 0 <= readsP p x /\ readsP p x ∈ holds
instance (p : Plan) (holds : List Int) (x : Port) : Decidable (shutG p holds x) := by unfold shutG; infer_instance
def goodG (p : Plan) (lay : Int -> Option Int) (zone : List Int) (x : Port) : Prop := kindP p x.elem ≠ 4 /\ (backsP p lay x ≠ [] -> x.elem ∈ zone)
instance (p : Plan) (lay : Int -> Option Int) (zone : List Int) (x : Port) : Decidable (goodG p lay zone x) := by unfold goodG; infer_instance
inductive ArrG (p : Plan) (lay : Int -> Option Int) (holds : List Int) (st : List Step) : Port -> Prop
 | init {x y : Port} : x ∈ portsF p st -> nextP p x = some y -> ArrG p lay holds st y
 | step {x y : Port} {o : Int} : ArrG p lay holds st x -> x.elem ∉ st.map (·.elem) -> ¬ shutG p holds x -> o ∈ backsP p lay x -> nextP p ⟨x.elem, o⟩ = some y -> ArrG p lay holds st y
def KeptG (p : Plan) (lay : Int -> Option Int) (holds zone : List Int) (st : List Step) : Prop := ∀ x, ArrG p lay holds st x -> x.elem ∉ st.map (·.elem) -> ¬ shutG p holds x -> goodG p lay zone x
def consN (nl : List Need) : Prop := ∀ a ∈ nl, ∀ b ∈ nl, a.elem = b.elem -> a.pos = b.pos
structure GuardP (p : Plan) (r : Road) : Prop where
 cons : consN (r.needs ++ r.guards)
 guard : ∀ m ∈ r.guards, kindP p m.elem = 2 /\ (m.pos = 1 \/ m.pos = 2)
 zone : ∀ e ∈ r.zone, 0 <= e /\ e < p.elems.length /\ e ∉ r.steps.map (·.elem)
 hold : ∀ s ∈ r.holds, 0 <= s /\ s < p.signals.length
 kept : KeptG p (layN (r.needs ++ r.guards)) r.holds r.zone r.steps
theorem backsP_len (p : Plan) (lay : Int -> Option Int) (x : Port) : (backsP p lay x).length <= 2 := by
 have h1 := outsP_len p x.elem x.fin
 have h2 := flat_lenB (backW lay x.elem) 1 (outsP p x.elem x.fin) (fun w _ => by unfold backW; split <;> simp)
 unfold backsP
 omega
theorem backsP_mem {p : Plan} {lay : Int -> Option Int} {x : Port} {o : Int} : o ∈ backsP p lay x ↔ ∃ w ∈ outsP p x.elem x.fin, (w.pos = 0 \/ lay x.elem = none \/ lay x.elem = some w.pos) /\ w.out = o := by
 unfold backsP
 rw [List.mem_flatMap]
 constructor
 .rintro ⟨w, hw, ho⟩
  unfold backW at ho
  split at ho
  .simp at ho; exact ⟨w, hw, ‹_›, ho.symm⟩
  .cases ho
 .rintro ⟨w, hw, hc, rfl⟩
  exact ⟨w, hw, by unfold backW; rw [if_pos hc]; simp⟩
section
variable {p : Plan} {n : Net} {r : Road} {lay : Int -> Option Int} {holds zone : List Int} {st : List Step}
theorem ArrG.in_ports {x : Port} (h : ArrG p lay holds st x) : x ∈ portsP p := by
 cases h with
 | init _ h2 => exact next_port h2
 | step _ _ _ _ h2 => exact next_port h2
structure GI (p : Plan) (lay : Int -> Option Int) (holds zone : List Int) (st : List Step) (V : Port -> Prop) (q : List Port) : Prop where
 arr : ∀ x ∈ q, ArrG p lay holds st x
 full : ∀ x, V x -> x.elem ∉ st.map (·.elem) -> ¬ shutG p holds x -> goodG p lay zone x /\ ∀ o ∈ backsP p lay x, ∀ y, nextP p ⟨x.elem, o⟩ = some y -> y ∈ q \/ V y
 init : ∀ x y, x ∈ portsF p st -> nextP p x = some y -> y ∈ q \/ V y
theorem GI.done {V : Port -> Prop} (h : GI p lay holds zone st V []) : KeptG p lay holds zone st := by
 have key : ∀ x, ArrG p lay holds st x -> V x := by
  intro x hx
  induction hx with
  | init h1 h2 => exact (h.init _ _ h1 h2).resolve_left (by simp)
  | step _ h2 h3 h4 h5 ih => exact ((h.full _ ih h2 h3).2 _ h4 _ h5).resolve_left (by simp)
 exact fun x hx h1 h2 => (h.full x (key x hx) h1 h2).1
theorem GI.bad {V : Port -> Prop} {x : Port} {q : List Port} (h : GI p lay holds zone st V (x :: q)) (h1 : x.elem ∉ st.map (·.elem)) (h2 : ¬ shutG p holds x) (hb : ¬ goodG p lay zone x) : ¬ KeptG p lay holds zone st :=
 fun hk => hb (hk x (h.arr x (by simp)) h1 h2)
theorem GI.next {V V' : Port -> Prop} {x : Port} {q q' : List Port} (h : GI p lay holds zone st V (x :: q)) (hV : ∀ y, V y -> V' y) (hx : V' x) (hV2 : ∀ y, V' y -> V y \/ y = x) (hq : ∀ y ∈ q, y ∈ q') (hq2 : ∀ y ∈ q', ArrG p lay holds st y)
  (hf : ¬ V x -> x.elem ∉ st.map (·.elem) -> ¬ shutG p holds x -> goodG p lay zone x /\ ∀ o ∈ backsP p lay x, ∀ y, nextP p ⟨x.elem, o⟩ = some y -> y ∈ q' \/ V' y) : GI p lay holds zone st V' q' := by
 have keep : ∀ y, y ∈ x :: q \/ V y -> y ∈ q' \/ V' y := by
  rintro y (hy | hy)
  .rcases List.mem_cons.1 hy with rfl | hy
   .exact .inr hx
   .exact .inl (hq y hy)
  .exact .inr (hV y hy)
 refine ⟨hq2, fun y hy h1 h2 => ?_, fun a b ha hb => keep b (h.init a b ha hb)⟩
 by_cases c : V y
 .have := h.full y c h1 h2
  exact ⟨this.1, fun o ho z hz => keep z (this.2 o ho z hz)⟩
 .rcases hV2 y hy with hy2 | rfl
  .exact absurd hy2 c
  .exact hf c h1 h2
def nextsP (p : Plan) (e : Int) (l : List Int) : List Port := l.flatMap fun o => match nextP p ⟨e, o⟩ with
 | some y => [y]
 | none => []
theorem nextsP_mem {e o : Int} {l : List Int} {y : Port} : y ∈ nextsP p e l ↔ ∃ o ∈ l, nextP p ⟨e, o⟩ = some y := by
 unfold nextsP
 rw [List.mem_flatMap]
 constructor
 .rintro ⟨o, ho, hy⟩
  cases hx : nextP p ⟨e, o⟩ with
  | none => rw [hx] at hy; cases hy
  | some z => rw [hx] at hy; simp at hy; subst hy; exact ⟨o, ho, hx⟩
 .rintro ⟨o, ho, hy⟩
  exact ⟨o, ho, by rw [hy]; simp⟩
theorem nextsP_len (e : Int) (l : List Int) : (nextsP p e l).length <= l.length := by
 have := flat_lenB (fun o => match nextP p ⟨e, o⟩ with | some y => [y] | none => []) 1 l (fun o _ => by split <;> simp)
 unfold nextsP
 omega
theorem GI.go {V V' : Port -> Prop} {x : Port} {q : List Port} (h : GI p lay holds zone st V (x :: q)) (h1 : x.elem ∉ st.map (·.elem)) (h2 : ¬ shutG p holds x) (hg : goodG p lay zone x) (hV : ∀ y, V' y ↔ V y \/ y = x) : GI p lay holds zone st V' (q ++ nextsP p x.elem (backsP p lay x)) := by
 have hx := h.arr x (by simp)
 refine h.next (fun y hy => (hV y).2 (.inl hy)) ((hV x).2 (.inr rfl)) (fun y hy => (hV y).1 hy) (fun y hy => List.mem_append_left _ hy) (fun y hy => ?_) (fun _ _ _ => ⟨hg, fun o ho y hy => .inl (List.mem_append_right _ (nextsP_mem (o := o) |>.2 ⟨o, ho, hy⟩))⟩)
 rcases List.mem_append.1 hy with hy | hy
 .exact h.arr y (by simp [hy])
 .obtain ⟨o, ho, hy⟩ := (nextsP_mem (o := 0)).1 hy
  exact .step hx h1 h2 ho hy
theorem backs_eq (hn : NetOf p n) (x : Port) (m : List (Int × Int)) (hm : ∀ e, assoc m e = lay e) : q_2x n x m = some (backsP p lay x) := by
 unfold q_2x backsP
 have hl := outsP_len p x.elem x.fin
 simp only [net_Outs hn, Option.bind_some]
 generalize outsP p x.elem x.fin = L at hl
 have := flat_loop 0 (l := L) (backW lay x.elem) (fun w => by unfold backW; split <;> simp) (by omega) (step := q_1n x m L) (fin := fun o => o) (fun o => by simp only [q_1n, dge, cond_false]) (fun i w o ha hb => by
  have := ilt ha
  simp only [q_1n, dlt ha, cond_true, idx_nat, ha, Option.bind_some, hm, wi64_succ (show i < 1000000000 by omega)]
  unfold backW
  have ap := appI_ok (show o.length + [w.out].length <= 4294967296 by simp; omega)
  by_cases c : w.pos = 0
  .simp [c, ap]
  .have cb : (w.pos == 0) = false := beq_eq_false_iff_ne.2 c
   cases hy : lay x.elem with
   | none => simp [c, cb, ap]
   | some q =>
    by_cases d : w.pos = q
    .subst d; simp [c, cb, ap]
    .have db : (w.pos == q) = false := beq_eq_false_iff_ne.2 d
     have de : ¬ q = w.pos := fun h => d h.symm
     simp [c, cb, db, de]) [] (by simp)
 simpa using this
theorem Guarded_l5 (hn : NetOf p n) (s : List Port × List (Port × Bool)) (x : Port) (l : List Int) (hl : l.length <= 10) (q : List Port) (hq : q.length <= 1000) : loopR (q_i n s x l) (0, q) = some (.inl (q ++ nextsP p x.elem l, aput x true s.2)) := by
 unfold nextsP
 exact flat_loop 1000 (l := l) (fun o => match nextP p ⟨x.elem, o⟩ with | some y => [y] | none => []) (fun o => by split <;> simp) (by omega) (step := q_i n s x l) (fin := fun o => (Sum.inl (o, aput x true s.2) : (List Port × List (Port × Bool)) ⊕ Bool)) (fun o => by simp only [q_i, dge, cond_false]) (fun i a o ha hb => by
  have := ilt ha
  simp only [q_i, dlt ha, cond_true, idx_nat, ha, Option.bind_some, net_Next hn, wi64_succ (show i < 1000000000 by omega)]
  cases nextP p ⟨x.elem, a⟩ with
  | none => simp
  | some y => simp [appI_ok (show o.length + [y].length <= 4294967296 by simp; omega)]) q hq
theorem Guarded_round (hn : NetOf p n) (h1 : r.steps.length <= 1000) (h2 : r.zone.length <= 1000) (h3 : r.holds.length <= 1000) (y3 : List (Int × Int) × Bool) (hm : ∀ e, assoc y3.1 e = lay e) (x : Port) (q : List Port) (hq : q.length <= 1000) (vis : List (Port × Bool)) :
  q_9 n r y3 p (x :: q, vis) = some (if seenB vis x = true \/ x.elem ∈ r.steps.map (·.elem) \/ shutG p r.holds x then .inl (q, vis) else if goodG p lay r.zone x then .inl (q ++ nextsP p x.elem (backsP p lay x), aput x true vis) else .inr false) := by
 have d : decide ((0 : Int) < (((x :: q).length : Nat) : Int)) = true := by simp
 have e0 : idx (x :: q) 0 = some x := rfl
 have vb : (assoc vis x).getD false = seenB vis x := rfl
 have es : (bif !p.hard then (q_2 n x).bind fun y2018 => bif decide (0 <= y2018) then (q_2 n x).bind fun y2021 => (q_1 r.holds y2021).bind fun y2023 => some y2023 else some false else some false : Option Bool) = some (decide (shutG p r.holds x)) := by
  unfold shutG
  simp only [net_Reads hn, Option.bind_some, contains_int r.holds (show r.holds.length < 1000000 by omega)]
  by_cases hh : p.hard = true
  .simp [hh]
  .have hf : p.hard = false := by simpa using hh
   by_cases c : 0 <= readsP p x
   .simp [hf, c]
   .simp [hf, c]
 have eb : (bif seenB vis x then some true else (q_m r x.elem).bind fun y2013 => bif y2013 then some true else (bif !p.hard then (q_2 n x).bind fun y2018 => bif decide (0 <= y2018) then (q_2 n x).bind fun y2021 => (q_1 r.holds y2021).bind fun y2023 => some y2023 else some false else some false) : Option Bool) = some (decide (seenB vis x = true \/ x.elem ∈ r.steps.map (·.elem) \/ shutG p r.holds x)) := by
  rw [es]
  cases hs : seenB vis x with
  | true => simp
  | false =>
   simp only [cond_false, Own_eq r (show r.steps.length < 1000000 by omega), Option.bind_some]
   by_cases c : x.elem ∈ r.steps.map (·.elem)
   .rw [decide_eq_true c]; simp only [cond_true, c, true_or, or_true, decide_true]
   .rw [decide_eq_false c]; simp only [cond_false, c, false_or, Bool.false_eq_true]
 unfold q_9
 simp only [d, cond_true, e0, slO_tail, Option.bind_some, vb]
 rw [eb]
 simp only [Option.bind_some]
 by_cases c : seenB vis x = true \/ x.elem ∈ r.steps.map (·.elem) \/ shutG p r.holds x
 .rw [if_pos c, decide_eq_true c]; rfl
 .rw [if_neg c, decide_eq_false c]
  simp only [cond_false, net_Kind hn, Option.bind_some, backs_eq hn x y3.1 hm, contains_int r.zone (show r.zone.length < 1000000 by omega)]
  have hb := backsP_len p lay x
  by_cases k4 : kindP p x.elem = 4
  .have : ¬ goodG p lay r.zone x := fun h => h.1 k4
   rw [if_neg this, k4]; rfl
  .have b4 : (kindP p x.elem == 4) = false := beq_eq_false_iff_ne.2 k4
   simp only [b4, cond_false]
   by_cases hg : goodG p lay r.zone x
   .rw [if_pos hg]
    have : (bif decide ((0 : Int) < ((backsP p lay x).length : Int)) then some (!decide (x.elem ∈ r.zone)) else some false : Option Bool) = some false := by
     by_cases hl : backsP p lay x = []
     .simp [hl]
     .have := hg.2 hl
      simp [this]
    rw [this]
    simp only [Option.bind_some, cond_false]
    exact Guarded_l5 hn _ x _ (by omega) q hq
   .rw [if_neg hg]
    have : (bif decide ((0 : Int) < ((backsP p lay x).length : Int)) then some (!decide (x.elem ∈ r.zone)) else some false : Option Bool) = some true := by
     have hl : backsP p lay x ≠ [] := fun h => hg ⟨k4, fun h2 => absurd h h2⟩
     have hz : x.elem ∉ r.zone := fun h => hg ⟨k4, fun _ => h⟩
     have := List.length_pos_iff.2 hl
     have hd : decide ((0 : Int) < ((backsP p lay x).length : Int)) = true := decide_eq_true (by omega)
     rw [hd, decide_eq_false hz]; rfl
    rw [this]; rfl
theorem start_ports (l : List Step) : ∀ y ∈ startQ p (portsF p l), ∃ x ∈ portsF p l, nextP p x = some y := fun y hy => by
 obtain ⟨x, hx, rfl⟩ := List.mem_map.1 hy
 obtain ⟨y, h⟩ := ports_joined hx
 exact ⟨x, hx, by rw [h]; rfl⟩
theorem start_mem {l : List Step} {x y : Port} (hx : x ∈ portsF p l) (hy : nextP p x = some y) : y ∈ startQ p (portsF p l) := List.mem_map.2 ⟨x, hx, by rw [hy]; rfl⟩
theorem Guarded_search (hv : Valid p) (hn : NetOf p n) (h1 : r.steps.length <= 12) (h2 : r.zone.length <= 1000) (h3 : r.holds.length <= 1000) (y3 : List (Int × Int) × Bool) (hm : ∀ e, assoc y3.1 e = lay e) :
  ∃ b, loopR (q_9 n r y3 p) (startQ p (portsF p r.steps), []) = some b /\ (b = true ↔ KeptG p lay r.holds r.zone r.steps) := by
 have hj := hv.nj
 have hp := portsF_len (p := p) r.steps
 have h4 : (portsP p).length = 2 * p.joins.length := flat_len2 _
 refine loop_up (step := q_9 n r y3 p) (Post := fun b => b = true ↔ KeptG p lay r.holds r.zone r.steps)
  (fun k s => GI p lay r.holds r.zone r.steps (fun y => seenB s.2 y = true \/ y.elem ∈ r.steps.map (·.elem) \/ shutG p r.holds y) s.1 /\ k + s.1.length + 3 * unv p s.2 <= 700) 700 ?_ ?_
 .rintro k ⟨q, vis⟩ ⟨hi, hms⟩
  dsimp only at hi hms
  cases q with
  | nil => exact .inl ⟨true, by simp [q_9], fun _ => hi.done, fun _ => rfl⟩
  | cons x q =>
   simp only [List.length_cons] at hms
   rw [Guarded_round (lay := lay) hn (by omega) h2 h3 y3 hm x q (by omega) vis]
   by_cases c : seenB vis x = true \/ x.elem ∈ r.steps.map (·.elem) \/ shutG p r.holds x
   .rw [if_pos c]
    refine .inr ⟨by omega, _, rfl, hi.next (fun _ h => h) c (fun _ h => .inl h) (fun _ h => h) (fun y hy => hi.arr y (by simp [hy])) fun q => absurd c q, by dsimp only; omega⟩
   .rw [if_neg c]
    have c1 : x.elem ∉ r.steps.map (·.elem) := fun h => c (.inr (.inl h))
    have c2 : ¬ shutG p r.holds x := fun h => c (.inr (.inr h))
    have c3 : seenB vis x = false := by cases hs : seenB vis x with | false => rfl | true => exact absurd (.inl hs) c
    by_cases hg : goodG p lay r.zone x
    .rw [if_pos hg]
     have hx := (hi.arr x (by simp)).in_ports
     have hlt := unv_lt hx c3
     have hb := backsP_len p lay x
     have hnl := nextsP_len (p := p) x.elem (backsP p lay x)
     refine .inr ⟨by omega, _, rfl, hi.go c1 c2 hg fun y => ?_, by simp only [List.length_append]; omega⟩
     dsimp only
     rw [seenB_aput]
     constructor
     .rintro ((h | h) | h)
      .exact .inr h
      .exact .inl (.inl h)
      .exact .inl (.inr h)
     .rintro ((h | h) | h)
      .exact .inl (.inr h)
      .exact .inr h
      .exact .inl (.inl h)
    .rw [if_neg hg]
     exact .inl ⟨false, rfl, fun h => (by cases h), fun h => absurd h (hi.bad c1 c2 hg)⟩
 .refine ⟨⟨fun y hy => ?_, fun x hx h1 h2 => ?_, fun x y hx hy => .inl (start_mem hx hy)⟩, ?_⟩
  .obtain ⟨x, hx, hy⟩ := start_ports r.steps y hy
   exact .init hx hy
  .rcases hx with h | h | h
   .simp [seenB, assoc] at h
   .exact absurd h h1
   .exact absurd h h2
  .have h3 : unv p [] <= (portsP p).length := List.length_filter_le _ _
   simp only [startQ, List.length_map]
   omega
end
end Go.E
/- Plain Lean: a road that is guarded keeps all out, whatever way other points lie; what a flank keeps is guarded. No condition. -/
namespace Go.E
open Go
theorem layN_none {nl : List Need} {e : Int} : layN nl e = none ↔ ∀ m ∈ nl, m.elem ≠ e := by
 unfold layN
 rw [Option.map_eq_none_iff, List.find?_eq_none]
 simp only [beq_iff_eq]
theorem layN_mem {nl : List Need} {e q : Int} (h : layN nl e = some q) : (⟨e, q⟩ : Need) ∈ nl := by
 unfold layN at h
 obtain ⟨m, hm, rfl⟩ := Option.map_eq_some_iff.1 h
 have h1 := List.mem_of_find?_eq_some hm
 have h2 := List.find?_some hm
 simp only [beq_iff_eq] at h2
 subst h2
 exact h1
theorem layN_some {nl : List Need} (hc : consN nl) {m : Need} (hm : m ∈ nl) : layN nl m.elem = some m.pos := by
 cases h : layN nl m.elem with
 | none => exact absurd rfl (layN_none.1 h m hm)
 | some q => rw [hc m hm _ (layN_mem h) rfl]
theorem lieFold_app (l m : List Need) (o : List Int) : (l ++ m).foldl lieStep o = m.foldl lieStep (l.foldl lieStep o) := List.foldl_append ..
theorem lieStep_eq {o : List Int} {nd : Need} (h0 : 0 <= nd.elem) (h1 : nd.elem < o.length) : idx (lieStep o nd) nd.elem = some nd.pos := by
 unfold lieStep
 rw [if_pos ⟨h0, h1⟩, idx_set h0 h1]
theorem lieFold_cons (l : List Need) (o : List Int) (hc : consN l) (nd : Need) (hm : nd ∈ l) (h0 : 0 <= nd.elem) (h1 : nd.elem < o.length) : idx (l.foldl lieStep o) nd.elem = some nd.pos := by
 have key : ∀ k : List Need, consN k.reverse -> nd ∈ k.reverse -> idx (k.reverse.foldl lieStep o) nd.elem = some nd.pos := by
  intro k
  induction k with
  | nil => intro _ h; cases h
  | cons a l ih =>
   intro hc hm
   rw [List.reverse_cons] at hc hm ⊢
   rw [lieFold_app]
   show idx (lieStep (l.reverse.foldl lieStep o) a) nd.elem = some nd.pos
   by_cases e : a.elem = nd.elem
   .have hp := hc a (by simp) nd hm e
    rw [<- e, <- hp, lieStep_eq (by omega) (by rw [lieFold_len]; omega)]
   .rw [lieStep_ne e]
    refine ih (fun x hx y hy => hc x (List.mem_append_left _ hx) y (List.mem_append_left _ hy)) ?_
    rcases List.mem_append.1 hm with hm | hm
    .exact hm
    .simp at hm; subst hm; exact absurd rfl e
 have := key l.reverse
 rw [List.reverse_reverse] at this
 exact this hc hm
section
variable {p : Plan} {n : Net} {r : Road} {lay : Int -> Option Int} {holds zone : List Int} {st : List Step} {lie : List Int} {shut : List Bool}
theorem backs_of {x : Port} {o : Int} (hl : ∀ e q, lay e = some q -> lieW lie e = q) (h : throughP p x.elem x.fin (lieW lie x.elem) = some o) : o ∈ backsP p lay x := by
 obtain ⟨w, hw, ho, hp⟩ := through_some h
 refine backsP_mem.2 ⟨w, hw, ?_, ho⟩
 rcases hp with hp | hp
 .exact .inl hp
 .cases hy : lay x.elem with
  | none => exact .inr (.inl rfl)
  | some q => rw [hp, hl _ _ hy]; exact .inr (.inr rfl)
theorem Arr.toG (hl : ∀ e q, lay e = some q -> lieW lie e = q) (hs : ∀ x, shutG p holds x -> shutP p shut x = true) {y : Port} (h : Arr p lie shut st y) : ArrG p lay holds st y := by
 induction h with
 | init h1 h2 => exact .init h1 h2
 | @step x y o hx h1 h2 h3 h4 h5 ih =>
  exact .step ih h1 (fun c => by rw [hs x c] at h2; cases h2) (backs_of hl h4) h5
theorem kept_zone (hk : KeptG p lay holds zone st) (hl : ∀ e q, lay e = some q -> lieW lie e = q) (hs : ∀ x, shutG p holds x -> shutP p shut x = true) {e : Int} (h : ZoneR p lie shut st e) : e ∈ zone := by
 obtain ⟨x, hx, rfl, h1, h2, h3⟩ := h
 have hg := hk x (hx.toG hl hs) h1 (fun c => by rw [hs x c] at h2; cases h2)
 obtain ⟨o, h4⟩ := Option.isSome_iff_exists.1 (h3.resolve_left hg.1)
 exact hg.2 (List.ne_nil_of_mem (backs_of hl h4))
end
end Go.E
/- Plain Lean: whether a road is guarded: the program's answer and the document's are one. No condition. -/
namespace Go.E
open Go
def okG (p : Plan) (m : Need) : Prop := kindP p m.elem = 2 /\ (m.pos = 1 \/ m.pos = 2)
instance (p : Plan) (m : Need) : Decidable (okG p m) := by unfold okG; infer_instance
theorem layN_snoc (l : List Need) (a : Need) (e : Int) : layN (l ++ [a]) e = match layN l e with | some q => some q | none => if a.elem = e then some a.pos else none := by
 unfold layN
 rw [List.find?_append]
 cases h : List.find? (fun m => m.elem == e) l with
 | some q => rfl
 | none =>
  by_cases c : a.elem = e
  .simp [c]
  .simp [c]
theorem consN_snoc {l : List Need} {a : Need} (h : consN l) (ha : ∀ q, layN l a.elem = some q -> q = a.pos) : consN (l ++ [a]) := by
 intro x hx y hy e
 rcases List.mem_append.1 hx with hx1 | hx1
 .rcases List.mem_append.1 hy with hy1 | hy1
  .exact h x hx1 y hy1 e
  .rw [List.mem_singleton.1 hy1] at e ⊢
   exact ha _ (by rw [<- e]; exact layN_some h hx1)
 .rw [List.mem_singleton.1 hx1] at e ⊢
  rcases List.mem_append.1 hy with hy1 | hy1
  .exact (ha _ (by rw [e]; exact layN_some h hy1)).symm
  .rw [List.mem_singleton.1 hy1]
section
variable {p : Plan} {n : Net} {r : Road}
theorem lying_spec (hn : NetOf p n) (r : Road) (h1 : r.needs.length <= 1000) (h2 : r.guards.length <= 1000) :
  ∃ t : List (Int × Int) × Bool, q_2w n r = some t /\ ((t.2 = true /\ consN (r.needs ++ r.guards) /\ (∀ m ∈ r.guards, okG p m) /\ ∀ e, assoc t.1 e = layN (r.needs ++ r.guards) e) \/ (t.2 = false /\ ¬ (consN (r.needs ++ r.guards) /\ ∀ m ∈ r.guards, okG p m))) := by
 unfold q_2w
 have e1 : q_7 r.needs = some r.needs := clone_eq _ (by omega)
 simp only [e1, Option.bind_some, appI_ok (show r.needs.length + r.guards.length <= 4294967296 by omega)]
 have hg : ∀ i m, r.needs.length <= i -> (r.needs ++ r.guards)[i]? = some m -> m ∈ r.guards := fun i m hi hm => by
  rw [List.getElem?_append_right hi] at hm
  exact List.mem_of_getElem? hm
 have hg2 : ∀ m ∈ r.guards, ∃ i, r.needs.length <= i /\ (r.needs ++ r.guards)[i]? = some m := fun m hm => by
  obtain ⟨i, hi⟩ := List.mem_iff_getElem?.1 hm
  exact ⟨r.needs.length + i, by omega, by rw [List.getElem?_append_right (by omega), Nat.add_sub_cancel_left]; exact hi⟩
 have hlen : (r.needs ++ r.guards).length <= 2000 := by simp; omega
 generalize r.needs ++ r.guards = L at hg hg2 hlen
 refine loop_st (l := L) (step := q_x n r L) (Post := fun t => (t.2 = true /\ consN L /\ (∀ m ∈ r.guards, okG p m) /\ ∀ e, assoc t.1 e = layN L e) \/ (t.2 = false /\ ¬ (consN L /\ ∀ m ∈ r.guards, okG p m)))
  (fun i c => consN (L.take i) /\ (∀ k m, r.needs.length <= k -> k < i -> L[k]? = some m -> okG p m) /\ ∀ e, assoc c e = layN (L.take i) e) ?_ ?_ ⟨fun a ha => (by simp at ha), fun k m _ hk => (by omega), fun e => rfl⟩
 .rintro c ⟨i1, i2, i3⟩
  rw [List.take_length] at i1
  refine ⟨(c, true), by simp only [q_x, dge, cond_false], .inl ⟨rfl, i1, fun m hm => ?_, fun e => by rw [i3 e, List.take_length]⟩⟩
  obtain ⟨i, hi, hm⟩ := hg2 m hm
  exact i2 i m hi (ilt hm) hm
 .rintro i a c ha ⟨i1, i2, i3⟩
  have hi := ilt ha
  have w := wi64_succ (show i < 1000000000 by omega)
  have ht : (bif decide ((r.needs.length : Int) <= (i : Int)) then (q_3 n a.elem).bind fun y => bif (y != 2) then some true else bif (a.pos != 1) then some (a.pos != 2) else some false else some false : Option Bool) = some (decide (r.needs.length <= i /\ ¬ okG p a)) := by
   unfold okG
   rw [net_Kind hn]
   by_cases c1 : r.needs.length <= i
   .have d1 : decide ((r.needs.length : Int) <= (i : Int)) = true := decide_eq_true (by omega)
    rw [d1]
    simp only [cond_true, Option.bind_some]
    by_cases c2 : kindP p a.elem = 2
    .have b2 : (kindP p a.elem != 2) = false := by simp [c2]
     rw [b2]
     by_cases c3 : a.pos = 1
     .simp [c1, c2, c3]
     .have b3 : (a.pos != 1) = true := bne_iff_ne.2 c3
      rw [b3]
      by_cases c4 : a.pos = 2
      .simp [c1, c2, c3, c4]
      .have b4 : (a.pos != 2) = true := bne_iff_ne.2 c4
       rw [b4]
       simp [c1, c2, c3, c4]
    .have b2 : (kindP p a.elem != 2) = true := bne_iff_ne.2 c2
     rw [b2]
     simp [c1, c2]
   .have d1 : decide ((r.needs.length : Int) <= (i : Int)) = false := decide_eq_false (by omega)
    rw [d1]; simp [c1]
  have hs : (bif (assoc c a.elem).isSome then some (((assoc c a.elem).getD 0) != a.pos) else some false : Option Bool) = some (match layN (L.take i) a.elem with | some q => q != a.pos | none => false) := by
   rw [i3]
   cases layN (L.take i) a.elem <;> simp
  have hu : q_x n r L ((i : Int), c) = bif decide (r.needs.length <= i /\ ¬ okG p a) then some (.inr ([], false)) else bif (match layN (L.take i) a.elem with | some q => q != a.pos | none => false) then some (.inr ([], false)) else some (.inl (((i + 1 : Nat) : Int), aput a.elem a.pos c)) := by
   simp only [q_x, dlt ha, cond_true, idx_nat, ha, Option.bind_some, w]
   rw [ht]
   simp only [Option.bind_some]
   rw [hs]
   simp only [Option.bind_some]
  rw [hu]
  have htake : L.take (i + 1) = L.take i ++ [a] := by
   rw [List.take_add_one, ha]; rfl
  by_cases c1 : r.needs.length <= i /\ ¬ okG p a
  .rw [decide_eq_true c1]
   exact .inl ⟨_, rfl, .inr ⟨rfl, fun h => c1.2 (h.2 a (hg i a c1.1 ha))⟩⟩
  .rw [decide_eq_false c1]
   cases hy : layN (L.take i) a.elem with
   | none =>
    refine .inr ⟨_, rfl, ?_, fun k m hk hk2 hm => ?_, fun e => ?_⟩
    .rw [htake]; exact consN_snoc i1 fun q hq => by rw [hy] at hq; cases hq
    .by_cases e : k = i
     .subst e; rw [ha] at hm; cases hm; exact Decidable.byContradiction fun h => c1 ⟨hk, h⟩
     .exact i2 k m hk (by omega) hm
    .rw [assoc_aput', htake, layN_snoc, i3]
     by_cases he : e = a.elem
     .subst he; simp [hy]
     .rw [if_neg he]
      have : ¬ a.elem = e := fun h => he h.symm
      rw [if_neg this]
      cases layN (L.take i) e <;> rfl
   | some q =>
    by_cases hq : q = a.pos
    .subst hq
     have : (a.pos != a.pos) = false := by simp
     simp only [this, cond_false]
     refine .inr ⟨_, rfl, ?_, fun k m hk hk2 hm => ?_, fun e => ?_⟩
     .rw [htake]; exact consN_snoc i1 fun q hq => by rw [hy] at hq; cases hq; first | rfl | done
     .by_cases e : k = i
      .subst e; rw [ha] at hm; cases hm; exact Decidable.byContradiction fun h => c1 ⟨hk, h⟩
      .exact i2 k m hk (by omega) hm
     .rw [assoc_aput', htake, layN_snoc, i3]
      by_cases he : e = a.elem
      .subst he; simp [hy]
      .rw [if_neg he]
       have : ¬ a.elem = e := fun h => he h.symm
       rw [if_neg this]
       cases layN (L.take i) e <;> rfl
    .have : (q != a.pos) = true := by simp [hq]
     simp only [this, cond_false, cond_true]
     refine .inl ⟨_, rfl, .inr ⟨rfl, fun h => hq ?_⟩⟩
     have h1 := layN_mem hy
     have h2 : (⟨a.elem, q⟩ : Need) ∈ L := List.mem_of_mem_take h1
     exact h.1 _ h2 a (List.mem_of_getElem? ha) rfl
theorem start_loop {β : Type} {L : List Port} (hL : L.length <= 1000) {step : Int × List Port -> Option ((Int × List Port) ⊕ β)} {fin : List Port -> Option β} (h0 : ∀ q, step ((L.length : Int), q) = (fin q).map .inr)
  (h1 : ∀ (i : Nat) x q, L[i]? = some x -> q.length <= 2000 -> step ((i : Int), q) = some (.inl (((i + 1 : Nat) : Int), q ++ [(nextP p x).getD ⟨0, 0⟩]))) : loopR step ((0 : Int), []) = fin (startQ p L) := by
 have key : ∀ (rest : List Port) (i : Nat) (q : List Port), L.drop i = rest -> i <= L.length -> q.length = i -> loopR step ((i : Int), q) = fin (q ++ startQ p rest) := by
  intro rest
  induction rest with
  | nil =>
   intro i q hd hi hq
   have : i = L.length := by have := congrArg List.length hd; simp at this; omega
   subst this
   rw [loopR_eq, h0]
   simp only [startQ, List.map_nil, List.append_nil]
   cases fin q <;> rfl
  | cons a r ih =>
   intro i q hd hi hq
   have hlt : i < L.length := by have := congrArg List.length hd; simp at this; omega
   have ha : L[i]? = some a := by
    have : (L.drop i)[0]? = some a := by rw [hd]; rfl
    simpa using this
   have hr : L.drop (i + 1) = r := by
    have : (L.drop i).drop 1 = r := by rw [hd]; rfl
    rwa [List.drop_drop] at this
   rw [loopR_inl (h1 i a q ha (by omega)), ih (i + 1) _ hr (by omega) (by simp [hq])]
   simp [startQ]
 simpa using key L 0 [] rfl (Nat.zero_le _) rfl
theorem Guarded_l3 (hn : NetOf p n) (y3 : List (Int × Int) × Bool) (h1 : r.steps.length <= 12) : loopR (q_16 n r y3 p (portsF p r.steps)) (0, []) = loopR (q_9 n r y3 p) (startQ p (portsF p r.steps), []) := by
 have hp := portsF_len (p := p) r.steps
 exact start_loop (L := portsF p r.steps) (by omega) (fin := fun q => loopR (q_9 n r y3 p) (q, [])) (fun q => by simp only [q_16, dge, cond_false]) (fun i x q hx hq => by
  have := ilt hx
  simp only [q_16, dlt hx, cond_true, idx_nat, hx, Option.bind_some, net_Next hn, appI_ok (show q.length + [(nextP p x).getD (⟨0, 0⟩ : Port)].length <= 4294967296 by simp; omega), wi64_succ (show i < 1000000000 by omega)])
theorem Guarded_eq (hv : Valid p) (hn : NetOf p n) (h1 : r.steps.length <= 12) (h2 : r.needs.length <= 1000) (h3 : r.guards.length <= 1000) (h4 : r.zone.length <= 1000) (h5 : r.holds.length <= 1000) : ∃ b, q_1a n r = some b /\ (b = true ↔ GuardP p r) := by
 obtain ⟨t, e1, e2⟩ := lying_spec hn r h2 h3
 unfold q_1a
 rw [e1]
 simp only [Option.bind_some]
 rcases e2 with ⟨e2, e3, e4, e5⟩ | ⟨e2, e3⟩
 .rw [e2]
  simp only [Bool.not_true, cond_false]
  have e6 : q_e n = some p := by unfold q_e; rw [hn.plan, twin_eq p hv.few]; rfl
  have e7 : q_1s n = some (p.elems.length : Int) := net_Len hn
  have e8 : q_f n = some (p.signals.length : Int) := by unfold q_f; rw [hn.plan]
  obtain ⟨b, e9, e10⟩ := Guarded_search (lay := layN (r.needs ++ r.guards)) hv hn h1 h4 h5 t e5
  have l2 : loopR (q_17 n r t) 0 = if r.holds.any (fun s => !decide (0 <= s /\ s < (p.signals.length : Int))) = true then some false else some b := by
   refine any_loop (l := r.holds) _ false (some b) ?_ fun i s hs => ?_
   .simp only [q_17, dge, cond_false, e6, Option.bind_some, Ports_eq hn r (show r.steps.length <= 1000 by omega)]
    rw [Guarded_l3 hn t h1, e9]
   .have := ilt hs
    simp only [q_17, dlt hs, cond_true, idx_nat, hs, Option.bind_some, e8, wi64_succ (show i < 1000000000 by omega)]
    by_cases c1 : s < 0
    .have c2 : ¬ (0 <= s /\ s < (p.signals.length : Int)) := by omega
     simp [c1, c2]
    .by_cases c2 : (p.signals.length : Int) <= s
     .have c3 : ¬ (0 <= s /\ s < (p.signals.length : Int)) := by omega
      simp [c1, c2, c3]
     .have c3 : (0 <= s /\ s < (p.signals.length : Int)) := by omega
      simp [c1, c2, c3]
  have l1 : loopR (q_18 n r t) 0 = if r.zone.any (fun e => !decide (0 <= e /\ e < (p.elems.length : Int) /\ e ∉ r.steps.map (·.elem))) = true then some false else if r.holds.any (fun s => !decide (0 <= s /\ s < (p.signals.length : Int))) = true then some false else some b := by
   refine any_loop (l := r.zone) _ false _ ?_ fun i e he => ?_
   .simp only [q_18, dge, cond_false]
    rw [l2]
   .have := ilt he
    simp only [q_18, dlt he, cond_true, idx_nat, he, Option.bind_some, e7, Own_eq r (show r.steps.length < 1000000 by omega), wi64_succ (show i < 1000000000 by omega)]
    by_cases c1 : e < 0
    .have c3 : ¬ (0 <= e /\ e < (p.elems.length : Int) /\ e ∉ r.steps.map (·.elem)) := by omega
     rw [decide_eq_true c1, decide_eq_false c3]; rfl
    .rw [decide_eq_false c1]
     by_cases c2 : (p.elems.length : Int) <= e
     .have c3 : ¬ (0 <= e /\ e < (p.elems.length : Int) /\ e ∉ r.steps.map (·.elem)) := by omega
      rw [decide_eq_true c2, decide_eq_false c3]; rfl
     .rw [decide_eq_false c2]
      by_cases c4 : e ∈ r.steps.map (·.elem)
      .have c3 : ¬ (0 <= e /\ e < (p.elems.length : Int) /\ e ∉ r.steps.map (·.elem)) := fun h => h.2.2 c4
       rw [decide_eq_true c4, decide_eq_false c3]; rfl
      .have c3 : (0 <= e /\ e < (p.elems.length : Int) /\ e ∉ r.steps.map (·.elem)) := ⟨by omega, by omega, c4⟩
       rw [decide_eq_false c4, decide_eq_true c3]; rfl
  rw [l1]
  by_cases c1 : r.zone.any (fun e => !decide (0 <= e /\ e < (p.elems.length : Int) /\ e ∉ r.steps.map (·.elem))) = true
  .rw [if_pos c1]
   refine ⟨false, rfl, fun h => (by cases h), fun h => ?_⟩
   obtain ⟨e, he, hb⟩ := List.any_eq_true.1 c1
   have := h.zone e he
   simp only [Bool.not_eq_true', decide_eq_false_iff_not] at hb
   exact absurd this hb
  .rw [if_neg c1]
   by_cases c2 : r.holds.any (fun s => !decide (0 <= s /\ s < (p.signals.length : Int))) = true
   .rw [if_pos c2]
    refine ⟨false, rfl, fun h => (by cases h), fun h => ?_⟩
    obtain ⟨e, he, hb⟩ := List.any_eq_true.1 c2
    have := h.hold e he
    simp only [Bool.not_eq_true', decide_eq_false_iff_not] at hb
    exact absurd this hb
   .rw [if_neg c2]
    refine ⟨b, rfl, fun h => ⟨e3, e4, fun e he => ?_, fun s hs => ?_, e10.1 h⟩, fun h => e10.2 h.kept⟩
    .refine Decidable.byContradiction fun hb => c1 (List.any_eq_true.2 ⟨e, he, ?_⟩)
     simp only [Bool.not_eq_true', decide_eq_false_iff_not]; exact hb
    .refine Decidable.byContradiction fun hb => c2 (List.any_eq_true.2 ⟨s, hs, ?_⟩)
     simp only [Bool.not_eq_true', decide_eq_false_iff_not]; exact hb
 .rw [e2]
  exact ⟨false, rfl, fun h => (by cases h), fun h => absurd ⟨h.cons, h.guard⟩ e3⟩
end
end Go.E
/- Plain Lean: whether a road is guarded, by the program and by the document (law ProofGuards); what is guarded keeps (law ProofKeeps). No condition. -/
namespace Go.E
open Go
section
variable {p : Plan} {n : Net} {r : Road}
theorem oru8_odd : ∀ w : Nat, w < 256 -> modI (oru8 w 1) 2 = some 1 /\ 0 <= oru8 w 1 := by decide +kernel
structure TurnF (r q : Road) : Prop where
 frm : q.frm = r.frm
 to : q.to = r.to
 fin : q.fin = r.fin
 steps : q.steps = r.steps
 needs : q.needs = r.needs
 guards : q.guards.length <= r.guards.length + 1
 zone : q.zone.length <= r.zone.length + 1
 holds : q.holds.length <= r.holds.length + 1
theorem Turned_flank (r : Road) {w k v : Int} (hw : modI w 2 = some 1) (hg : r.guards.length <= 10000) (hz : r.zone.length <= 10000) (hh : r.holds.length <= 10000) : ∃ q, q_3m r w k v = some q /\ TurnF r q := by
 unfold q_3m
 have d0 : divU w 2 = some (IntKind.wrap .u8 (w.tdiv 2)) := by unfold divU; rw [if_neg (by decide)]
 have d1 : modI (IntKind.wrap .u8 (w.tdiv 2)) 7 = some ((IntKind.wrap .u8 (w.tdiv 2)).tmod 7) := by unfold modI; rw [if_neg (by decide)]
 have a1 := appI_ok (show ([] : List Int).length + r.zone.length <= 4294967296 by simp; omega)
 have a2 := appI_ok (show r.zone.length + [v].length <= 4294967296 by simp; omega)
 have a3 := appI_ok (show ([] : List Int).length + r.holds.length <= 4294967296 by simp; omega)
 have a4 := appI_ok (show r.holds.length + [v].length <= 4294967296 by simp; omega)
 have a5 := appI_ok (show ([] : List Need).length + r.guards.length <= 4294967296 by simp; omega)
 have a6 := appI_ok (show r.guards.length + [(⟨wi64 k, v⟩ : Need)].length <= 4294967296 by simp; omega)
 simp only [hw, Option.bind_some, show ((1 : Int) == 0) = false from rfl, cond_false, d0, d1, a1, a2, a3, a4, a5, a6, List.nil_append]
 simp only [cbeq]
 generalize (IntKind.wrap .u8 (w.tdiv 2)).tmod 7 = y
 repeat' split
 all_goals try simp only [Option.bind_some]
 all_goals refine ⟨_, rfl, ?_⟩
 all_goals constructor <;> first | rfl | (simp only [List.length_append, List.length_cons, List.length_nil]; omega)
theorem isF_needs {r : Road} (h : isF p r = true) : (∀ m ∈ r.needs, m.elem ∈ r.steps.map (·.elem) /\ kindP p m.elem = 2 /\ (m.pos = 1 \/ m.pos = 2)) /\ r.needs.Pairwise (fun a b => a.elem ≠ b.elem) /\ r.steps.length <= 12 := by
 obtain ⟨sg, nd, l, h1, h2, h3, h4, h5, h6, h7⟩ := isF_parts h
 have := stepsF_needs (by simp) (by simp) h4
 rw [h7]
 exact ⟨fun m hm => by simpa using this.1 m hm, this.2.1, h3⟩
theorem ProofKeeps_true (p : Plan) (k : Int) (pos : List Int) (w b v : Int) (hk : (Lit.int .u8 k).wf = true) (hw : (Lit.int .u8 w).wf = true) : q_2r p k pos w b v = some true := by
 unfold q_2r
 simp only [known12, Option.bind_some, Bool.not_true, cond_false]
 obtain ⟨b0, h1, h2⟩ := fine_total p
 simp only [h1, Option.bind_some]
 cases b0 with
 | false => rfl
 | true =>
  simp only [Bool.not_true, cond_false, Option.bind_some]
  by_cases c1 : (100 : Int) < (pos.length : Int)
  .rw [decide_eq_true c1]; rfl
  rw [decide_eq_false c1]
  have hv := h2 rfl
  have hf := hv.few
  obtain ⟨o, h3, h4⟩ := made_total p
  obtain ⟨n, rfl, hn⟩ := h4 h1
  obtain ⟨r, b1, h5, h6⟩ := L8_Road_eq hv hk
  simp only [cond_false, Option.bind_some, h3, h5, optM]
  cases b1 with
  | false => rfl
  | true =>
   obtain ⟨s, hs⟩ := h6 rfl
   have hl := ofF_steps hs
   have hnd : r.needs.length <= 12 := (ofF_road hs).2.2.2.2.2.2.2.2
   obtain ⟨g, z, h, bb, e1, e2, e3, e4, e5, e6⟩ := flank_total hv hn hl (show r.needs.length <= 1000 by omega)
   have hzl := e2.len
   obtain ⟨w0, rfl⟩ := Int.eq_ofNat_of_zero_le (u8w hw).1
   have hodd := oru8_odd w0 (by have := (u8w hw).2.1; omega)
   obtain ⟨q, q1, q2⟩ := Turned_flank (⟨r.frm, r.to, r.fin, r.steps, r.needs, g, z, h, bb⟩ : Road) (k := b) (v := v) hodd.1 (show g.length <= 10000 by omega) (show z.length <= 10000 by omega) (show h.length <= 10000 by omega)
   have qs : q.steps.length <= 12 := by rw [q2.steps]; exact hl
   have qn : q.needs.length <= 12 := by rw [q2.needs]; exact hnd
   have qg : q.guards.length <= 1000 := by have := q2.guards; simp only at this; omega
   have qz : q.zone.length <= 1000 := by have := q2.zone; simp only at this; omega
   have qh : q.holds.length <= 1000 := by have := q2.holds; simp only at this; omega
   simp only [Bool.not_true, cond_false, e1, Option.bind_some, q1, road_Is_eq hn q (show q.needs.length <= 1000 by omega)]
   cases hi : isF p q with
   | false => rfl
   | true =>
    obtain ⟨x, x1, x2⟩ := Guarded_eq (r := q) hv hn qs (by omega) qg qz qh
    simp only [Bool.not_true, cond_false, Option.bind_some, x1]
    cases x with
    | false => rfl
    | true =>
     have hG := x2.1 rfl
     obtain ⟨n1, n2, _⟩ := isF_needs hi
     have hE : p.elems.length <= 1000 := by have := hf.elems; omega
     obtain ⟨base, e9, hb1, hb2⟩ := Lying_ok p (q.needs ++ q.guards) pos hE (by have := q2.guards; simp only at this; simp; omega)
     have hlie : ∀ e x, layN (q.needs ++ q.guards) e = some x -> lieW ((q.needs ++ q.guards).foldl lieStep base) e = x := fun e x hx => by
      have hm := layN_mem hx
      have hkd : kindP p e = 2 := by
       rcases List.mem_append.1 hm with hm | hm
       .exact (n1 _ hm).2.1
       .exact (hG.guard _ hm).1
      have hr := kind_range (p := p) (e := e) (by rw [hkd]; decide)
      unfold lieW
      rw [lieFold_cons _ _ hG.cons _ hm hr.1 (by rw [hb1]; exact hr.2)]; rfl
     generalize (q.needs ++ q.guards).foldl lieStep base = P at hlie e9
     have hmk : mkI (p.signals.length : Int) false = some (List.replicate p.signals.length false) := by
      have hS : p.signals.length <= 1000 := by have := hf.signals; omega
      unfold mkI
      rw [if_pos ⟨by omega, by omega⟩]; rfl
     simp only [Bool.not_true, cond_false, Option.bind_some, appI_ok (show ([] : List Need).length + q.needs.length <= 4294967296 by simp; omega), List.nil_append, appI_ok (show q.needs.length + q.guards.length <= 4294967296 by omega), e9, hmk]
     obtain ⟨t, r1, r2⟩ := loop_up (step := q_u p n q P) (Post := fun t => t = true)
      (fun k s => s.1 = (k : Int) /\ k <= p.signals.length /\ s.2.length = p.signals.length /\ ∀ j : Nat, j < k -> s.2[j]? = some (!p.hard && decide ((j : Int) ∈ q.holds))) p.signals.length
      (s := (0, List.replicate p.signals.length false)) (by
       rintro k ⟨i, d⟩ ⟨rfl, g1, g2, g3⟩
       dsimp only at g2 g3 ⊢
       have hS : p.signals.length <= 1000 := by have := hf.signals; omega
       by_cases c : k = p.signals.length
       .left
        have dd : decide ((k : Int) < (d.length : Int)) = false := decide_eq_false (by omega)
        obtain ⟨l, l1, l2, l3, l4⟩ := Reach_spec (r := q) hv hn qs P d
        have hz : ∀ e ∈ l, e ∈ q.zone := fun e he => kept_zone hG.kept hlie (fun x hx => by
         obtain ⟨s1, s2, s3⟩ := hx
         unfold shutP
         obtain ⟨j, hj⟩ := Int.eq_ofNat_of_zero_le s2
         have hjl : j < p.signals.length := by rcases readsP_cases p x with e | e <;> omega
         rw [decide_eq_true s2, hj, idx_nat, g3 j (by omega), s1]
         rw [hj] at s3
         have s3' : (j : Int) ∈ q.holds := s3
         simp [s3']) ((l3 e).1 he)
        have hlp := any_loop (l := l) (step := q_t q l) (fun e => !decide (e ∈ q.zone)) false (some true) (by simp only [q_t, dge, cond_false]; rfl) (fun i e he => by
         have := ilt he
         simp only [q_t, dlt he, cond_true, idx_nat, he, Option.bind_some, In_eq q.zone (show q.zone.length < 1000000 by omega), wi64_succ (show i < 1000000000 by omega)]
         by_cases cc : e ∈ q.zone
         .rw [decide_eq_true cc]; rfl
         .rw [decide_eq_false cc]; rfl)
        have hno : l.any (fun e => !decide (e ∈ q.zone)) = false := List.any_eq_false.2 fun e he => by simp [hz e he]
        rw [hno] at hlp
        refine ⟨true, ?_, rfl⟩
        simp only [q_u, dd, cond_false, l1, Option.bind_some]
        rw [hlp]; rfl
       .right
        have hkl : k < p.signals.length := by omega
        have dd : decide ((k : Int) < (d.length : Int)) = true := decide_eq_true (by omega)
        have i2 : d[k]? = some (d[k]'(by omega)) := List.getElem?_eq_getElem _
        have w := wi64_succ (show k < 1000000000 by omega)
        refine ⟨hkl, (((k + 1 : Nat) : Int), setI d (k : Int) (!p.hard && decide ((k : Int) ∈ q.holds))), ?_, rfl, by omega, by rw [setI_len]; exact g2, fun j hj => ?_⟩
        .simp only [q_u, dd, cond_true, idx_nat, i2, Option.bind_some, w, In_eq q.holds (show q.holds.length < 1000000 by omega)]
         cases p.hard <;> simp
        .show (d.set (k : Int).toNat _)[j]? = _
         rw [Int.toNat_natCast]
         by_cases e : j = k
         .subst e; rw [List.getElem?_set_self (by omega)]
         .rw [List.getElem?_set_ne (by omega)]; exact g3 j (by omega)) (by simp)
     rw [r1, r2]
end
end Go.E
