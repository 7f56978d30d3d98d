/- Plain Lean: LoopTells answers true, for every argument. No condition. -/
import Derived.Test.YtceolngncngldaaGreatJ5
set_option linter.unusedVariables false
set_option linter.unusedSimpArgs false
namespace Go.E
open Go

theorem mem_compact {zs : List Int} {x : Int} (h : x ∈ Lib.compact zs) : x ∈ zs := by
  obtain ⟨j, hj, rfl⟩ := List.mem_map.1 h
  have hlt : j < zs.length := List.mem_range.1 (List.mem_filter.1 hj).1
  have : zs.toArray[j]! = zs[j] := by simp [hlt]
  rw [this]; exact List.getElem_mem hlt

theorem bools_eq {a b : List Bool} (hl : a.length = b.length) (h : ∀ i : Nat, a[i]? = some true ↔ b[i]? = some true) : a = b := by
  apply List.ext_getElem hl
  intro i h1 h2
  have := h i
  rw [List.getElem?_eq_getElem h1, List.getElem?_eq_getElem h2] at this
  cases ha : a[i] <;> cases hb : b[i] <;> simp_all

theorem SameBools_refl (l : List Bool) (hl : l.length < 1000000) : g_R6_SameBools l l = some true := by
  unfold g_R6_SameBools
  simp only [bne_self_eq_false, cond_false]
  obtain ⟨b, hb, rfl⟩ := loop_ix (l := l) (step := g_R6_SameBools_l1 l l) (Post := fun b => b = true) (fun _ _ => True) (fun _ => ⟨true, by simp only [g_R6_SameBools_l1, dge, cond_false], rfl⟩)
    (fun i a h _ => .inr ⟨by have := ilt h; simp only [g_R6_SameBools_l1, dlt h, cond_true, idx_nat, h, Option.bind_some, beq_self_eq_true, Bool.not_true, cond_false, wi64_succ (show i < 1000000000 by omega)], trivial⟩)
  exact hb

section
variable {p : Plan} {n : Net}

/-- Somebody lies in an element. -/
def InB (p : Plan) (b : Body) (x : Int) : Prop := ∃ h ∈ b.trail, kindP p h.elem ≠ 4 ∧ h.elem = x

theorem InB_range (hv : Valid p) {len : Int} {b : Body} (hb : BodyOK p len b) {x : Int} (h : InB p b x) : (b.mode = 2 ∨ b.mode = 4) ∧ 0 ≤ x ∧ x < (p.elems.length : Int) := by
  obtain ⟨g, hg, hk, rfl⟩ := h
  have hm : b.mode = 2 ∨ b.mode = 4 := by
    rcases hb.mode with m | m | m | m
    · obtain ⟨g', ht, _, hk'⟩ := hb.waits m
      rw [ht] at hg
      simp at hg; subst hg
      exact absurd hk' hk
    · exact .inl m
    · rw [hb.home m] at hg; simp at hg
    · exact .inr m
  obtain ⟨i, hi⟩ := List.getElem?_of_mem hg
  obtain ⟨h1, -⟩ := (hb.heads hm).port i g hi
  obtain ⟨e, he, -⟩ := hasP_idx h1
  exact ⟨hm, idx_len he⟩

theorem Lies_sp (hn : NetOf p n) (b : Body) (hl : b.trail.length ≤ 5000) : ∃ out, g_body_Lies n b = some (Lib.compact (isort out)) ∧ out.length ≤ 5000 ∧ ∀ x, x ∈ out ↔ InB p b x := by
  have main : ∃ r, g_body_Lies n b = some r ∧ ∃ out, r = Lib.compact (isort out) ∧ out.length ≤ 5000 ∧ ∀ x, x ∈ out ↔ InB p b x := by
    unfold g_body_Lies
    refine loop_st (l := b.trail) (I := fun i out => out.length ≤ i ∧ ∀ x, x ∈ out ↔ ∃ (j : Nat) (h : Port), j < i ∧ b.trail[j]? = some h ∧ kindP p h.elem ≠ 4 ∧ h.elem = x) (fun out ⟨h1, h2⟩ => ?_) (fun i h out hi ⟨h1, h2⟩ => ?_) ⟨by simp, fun x => by simp⟩
    · have e1 : sortI out = some (isort out) := by unfold sortI; rw [if_pos (by omega)]
      have hp := isort_perm out
      have e2 : compI (isort out) = some (Lib.compact (isort out)) := by unfold compI; rw [if_pos (by rw [hp.length_eq]; omega)]
      refine ⟨Lib.compact (isort out), by simp only [g_body_Lies_l1, dge, cond_false, e1, e2, Option.bind_some, Option.map_some], out, rfl, by omega, fun x => ?_⟩
      rw [h2 x]
      constructor
      · rintro ⟨j, h, _, hj, hk, he⟩; exact ⟨h, List.mem_of_getElem? hj, hk, he⟩
      · rintro ⟨h, hh, hk, he⟩
        obtain ⟨j, hj⟩ := List.getElem?_of_mem hh
        exact ⟨j, h, ilt hj, hj, hk, he⟩
    · have := ilt hi
      right
      by_cases hk : kindP p h.elem = 4
      · refine ⟨out, by simp only [g_body_Lies_l1, dlt hi, cond_true, idx_nat, hi, Option.bind_some, net_Kind hn, cbne, if_pos hk, wi64_succ (show i < 1000000000 by omega)], by omega, fun x => ?_⟩
        rw [h2 x]
        constructor
        · rintro ⟨j, g, hj, q⟩; exact ⟨j, g, by omega, q⟩
        · rintro ⟨j, g, hj, q1, q2, q3⟩
          refine ⟨j, g, ?_, q1, q2, q3⟩
          by_cases e : j = i
          · subst e; rw [hi] at q1; cases q1; exact absurd hk q2
          · omega
      · refine ⟨out ++ [h.elem], by simp only [g_body_Lies_l1, dlt hi, cond_true, idx_nat, hi, Option.bind_some, net_Kind hn, cbne, if_neg hk, appI_ok (show out.length + [h.elem].length ≤ 4294967296 by simp; omega), wi64_succ (show i < 1000000000 by omega)], by simp; omega, fun x => ?_⟩
        rw [List.mem_append, h2 x]
        constructor
        · rintro (⟨j, g, hj, q⟩ | hx)
          · exact ⟨j, g, by omega, q⟩
          · exact ⟨i, h, by omega, hi, hk, by simpa using (List.mem_singleton.1 hx).symm⟩
        · rintro ⟨j, g, hj, q1, q2, q3⟩
          by_cases e : j = i
          · subst e; rw [hi] at q1; cases q1; exact .inr (by simp [q3])
          · exact .inl ⟨j, g, by omega, q1, q2, q3⟩
  obtain ⟨r, hr, out, rfl, h1, h2⟩ := main
  exact ⟨out, hr, h1, h2⟩

/-- The document's list: in rising order, each once. -/
theorem RLies_sp (hv : Valid p) {len : Int} {b : Body} (hb : BodyOK p len b) (hl : b.trail.length ≤ 5000) : ∃ ls, g_R24_Lies p b = some ls ∧ ls.Pairwise (· < ·) ∧ ls.length ≤ 40 ∧ ∀ x, x ∈ ls ↔ InB p b x := by
  have hne := hv.ne
  unfold g_R24_Lies
  simp only [cbne]
  by_cases hm : b.mode = 2 ∨ b.mode = 4
  · have e0 : ((if b.mode = 2 then some false else some (b.mode != 4)) : Option Bool) = some false := by
      rcases hm with h | h
      · simp [h]
      · simp [h]
    simp only [e0, Option.bind_some, cond_false]
    have hh := hb.heads hm
    refine loop_st (l := b.trail) (I := fun i (a : ArrL 40 Bool) => ∀ k : Nat, a.1[k]? = some true ↔ ∃ (j : Nat) (h : Port), j < i ∧ b.trail[j]? = some h ∧ kindP p h.elem ≠ 4 ∧ h.elem = (k : Int)) (fun a ha => ?_) (fun i h a hi ha => ?_) (fun k => ?_)
    · -- the second loop
      have inner : ∃ r, loopR (g_R24_Lies_l2 ((b.trail.length : Int), a)) (((0 : Nat) : Int), ([] : List Int)) = some r ∧ (r.Pairwise (· < ·) ∧ r.length ≤ 40 ∧ ∀ x, x ∈ r ↔ ∃ j : Nat, j < 40 ∧ a.1[j]? = some true ∧ x = (j : Int)) := by
        refine loop_up (fun k s => s.1 = (k : Int) ∧ k ≤ 40 ∧ s.2.Pairwise (· < ·) ∧ s.2.length ≤ k ∧ ∀ x, x ∈ s.2 ↔ ∃ j : Nat, j < k ∧ a.1[j]? = some true ∧ x = (j : Int)) 40 ?_ ⟨rfl, by omega, by simp, by simp, fun x => by simp⟩
        rintro k ⟨s, out⟩ ⟨hs, hk, h1, h2, h3⟩
        simp only at hs h1 h2 h3
        subst hs
        by_cases hk4 : k = 40
        · subst hk4
          exact .inl ⟨out, by simp only [g_R24_Lies_l2, show decide (((40 : Nat) : Int) < 40) = false by decide, cond_false], h1, h2, h3⟩
        · right
          have hd : decide ((k : Int) < 40) = true := by simp; omega
          have hal := a.2
          obtain ⟨y, hy⟩ : ∃ y, a.1[k]? = some y := ⟨_, List.getElem?_eq_getElem (by omega)⟩
          cases y with
          | false =>
            refine ⟨by omega, (((k + 1 : Nat) : Int), out), by simp only [g_R24_Lies_l2, hd, cond_true, idx_nat, hy, Option.bind_some, cond_false, wi64_succ (show k < 1000000000 by omega)], rfl, by omega, h1, by simp only; omega, fun x => ?_⟩
            rw [h3 x]
            constructor
            · rintro ⟨j, hj, q⟩; exact ⟨j, by omega, q⟩
            · rintro ⟨j, hj, q1, q2⟩
              refine ⟨j, ?_, q1, q2⟩
              by_cases e : j = k
              · subst e; rw [hy] at q1; cases q1
              · omega
          | true =>
            refine ⟨by omega, (((k + 1 : Nat) : Int), out ++ [(k : Int)]), by simp only [g_R24_Lies_l2, hd, cond_true, idx_nat, hy, Option.bind_some, appI_ok (show out.length + [(k : Int)].length ≤ 4294967296 by simp; omega), wi64_succ (show k < 1000000000 by omega)], rfl, by omega, ?_, by simp; omega, fun x => ?_⟩
            · refine List.pairwise_append.2 ⟨h1, by simp, fun u hu w hw => ?_⟩
              obtain ⟨j, hj, _, rfl⟩ := (h3 u).1 hu
              rw [List.mem_singleton.1 hw]; omega
            · simp only [List.mem_append, h3 x, List.mem_singleton]
              constructor
              · rintro (⟨j, hj, q⟩ | rfl)
                · exact ⟨j, by omega, q⟩
                · exact ⟨k, by omega, hy, rfl⟩
              · rintro ⟨j, hj, q1, q2⟩
                by_cases e : j = k
                · subst e; exact .inr q2
                · exact .inl ⟨j, by omega, q1, q2⟩
      obtain ⟨r, hr, r1, r2, r3⟩ := inner
      rw [show ((0 : Nat) : Int) = 0 from rfl] at hr
      refine ⟨r, by simp only [g_R24_Lies_l1, dge, cond_false, hr, Option.map_some], r1, r2, fun x => ?_⟩
      rw [r3 x]
      constructor
      · rintro ⟨j, _, hj, rfl⟩
        obtain ⟨i, h, _, q1, q2, q3⟩ := (ha j).1 hj
        exact ⟨h, List.mem_of_getElem? q1, q2, q3⟩
      · intro hx
        obtain ⟨-, x0, x1⟩ := InB_range hv hb hx
        obtain ⟨h, hh', hk, rfl⟩ := hx
        obtain ⟨i, hi⟩ := List.getElem?_of_mem hh'
        exact ⟨h.elem.toNat, by omega, (ha _).2 ⟨i, h, ilt hi, hi, hk, by omega⟩, by omega⟩
    · right
      have hil := ilt hi
      obtain ⟨h1, -⟩ := hh.port i h hi
      obtain ⟨e, he, -⟩ := hasP_idx h1
      obtain ⟨x0, x1⟩ := idx_len he
      have hal := a.2
      obtain ⟨y, hy⟩ := idx_of (l := a.1) (n := h.elem) x0 (by omega)
      refine ⟨setA a h.elem (kindP p h.elem != 4), by simp only [g_R24_Lies_l1, dlt hi, cond_true, idx_nat, hi, Option.bind_some, g_R6_Kind_eq, hy, wi64_succ (show i < 1000000000 by omega)], fun k => ?_⟩
      show (a.1.set h.elem.toNat (kindP p h.elem != 4))[k]? = some true ↔ _
      by_cases e : h.elem.toNat = k
      · subst e
        rw [List.getElem?_set_self (by omega)]
        constructor
        · intro q
          have : (kindP p h.elem != 4) = true := Option.some.inj q
          exact ⟨i, h, by omega, hi, by simpa using this, by omega⟩
        · rintro ⟨j, g, hj, q1, q2, q3⟩
          have : g.elem = h.elem := by omega
          rw [this] at q2
          simp [q2]
      · rw [List.getElem?_set_ne e, ha k]
        constructor
        · rintro ⟨j, g, hj, q⟩; exact ⟨j, g, by omega, q⟩
        · rintro ⟨j, g, hj, q1, q2, q3⟩
          refine ⟨j, g, ?_, q1, q2, q3⟩
          by_cases e' : j = i
          · subst e'; rw [hi] at q1; cases q1; omega
          · omega
    · constructor
      · intro h
        have : (zeroA 40 false : ArrL 40 Bool).1 = List.replicate 40 false := rfl
        rw [this] at h
        cases List.eq_of_mem_replicate (List.mem_of_getElem? h)
      · rintro ⟨j, h, hj, _⟩; omega
  · have e0 : ((if b.mode = 2 then some false else some (b.mode != 4)) : Option Bool) = some true := by
      have m2 : ¬ b.mode = 2 := fun h => hm (.inl h)
      have m4 : ¬ b.mode = 4 := fun h => hm (.inr h)
      simp [m2, m4]
    simp only [e0, Option.bind_some, cond_true]
    exact ⟨[], rfl, by simp, by simp, fun x => ⟨fun h => by simp at h, fun h => absurd (InB_range hv hb h).1 hm⟩⟩

theorem set_iff {l : List Bool} {e : Int} (h0 : 0 ≤ e) (h1 : e < (l.length : Int)) (k : Nat) : (l.set e.toNat true)[k]? = some true ↔ l[k]? = some true ∨ (k : Int) = e := by
  by_cases c : e.toNat = k
  · subst c
    rw [List.getElem?_set_self (by omega)]
    exact ⟨fun _ => .inr (by omega), fun _ => rfl⟩
  · rw [List.getElem?_set_ne c]
    exact ⟨.inl, fun h => by rcases h with h | h; exact h; omega⟩

/-- Somebody of some lies in an element. -/
def InL (p : Plan) (l : List Body) (i : Nat) (k : Nat) : Prop := ∃ (j : Nat) (b : Body), j < i ∧ l[j]? = some b ∧ InB p b (k : Int)

theorem InL_succ {l : List Body} {i k : Nat} {b : Body} (hi : l[i]? = some b) : InL p l (i + 1) k ↔ InL p l i k ∨ InB p b (k : Int) := by
  constructor
  · rintro ⟨j, x, hj, h1, h2⟩
    by_cases e : j = i
    · subst e; rw [hi] at h1; cases h1; exact .inr h2
    · exact .inl ⟨j, x, by omega, h1, h2⟩
  · rintro (⟨j, x, hj, h1, h2⟩ | h)
    · exact ⟨j, x, by omega, h1, h2⟩
    · exact ⟨i, b, by omega, hi, h⟩

theorem Occ_sp (hn : NetOf p n) (hv : Valid p) {len : Int} (l : List Body) (hl : l.length ≤ 12) (hs : ∀ (i : Nat) b, l[i]? = some b → b.trail.length ≤ 5000 ∧ BodyOK p len b) :
    ∃ oc, g_loop_Occ n l = some oc ∧ oc.length = p.elems.length ∧ ∀ k : Nat, oc[k]? = some true ↔ InL p l l.length k := by
  have hel := hv.few.elems
  have hmk : mkI (n.p.elems.length : Int) false = some (List.replicate p.elems.length false) := by
    rw [hn.plan]; unfold mkI; rw [if_pos (by omega)]; simp
  unfold g_loop_Occ g_net_Net_Len
  simp only [Option.bind_some, hmk]
  refine loop_st (l := l) (I := fun i oc => oc.length = p.elems.length ∧ ∀ k : Nat, oc[k]? = some true ↔ InL p l i k)
    (fun oc ⟨h1, h2⟩ => ⟨oc, by simp only [g_loop_Occ_l1, dge, cond_false], h1, h2⟩) (fun i b oc hi ⟨h1, h2⟩ => ?_) ⟨by simp, fun k => ⟨fun h => (by cases List.eq_of_mem_replicate (List.mem_of_getElem? h)), fun h => (by obtain ⟨j, b, hj, _⟩ := h; omega)⟩⟩
  right
  obtain ⟨hb1, hb2⟩ := hs i b hi
  obtain ⟨out, hls, hlen, hmem⟩ := Lies_sp hn b hb1
  have hil := ilt hi
  have hcl := compact_len (isort out)
  have hpl := (isort_perm out).length_eq
  have hm : ∀ x, x ∈ Lib.compact (isort out) ↔ InB p b x := fun x => by
    rw [← hmem x, ← (isort_perm out).mem_iff]
    exact ⟨mem_compact, compact_mem⟩
  have inner : ∃ r, loopR (g_loop_Occ_l2 ((i : Int), oc) (Lib.compact (isort out))) (0, oc) = some r ∧ ∃ oc', r = .inl (((i + 1 : Nat) : Int), oc') ∧ oc'.length = p.elems.length ∧ ∀ k : Nat, oc'[k]? = some true ↔ oc[k]? = some true ∨ (k : Int) ∈ Lib.compact (isort out) := by
    refine loop_st (l := Lib.compact (isort out)) (I := fun k c => c.length = p.elems.length ∧ ∀ q : Nat, c[q]? = some true ↔ oc[q]? = some true ∨ ∃ j : Nat, j < k ∧ (Lib.compact (isort out))[j]? = some (q : Int))
      (fun c ⟨g1, g2⟩ => ?_) (fun k e c hk ⟨g1, g2⟩ => ?_) ⟨h1, fun q => ⟨.inl, fun h => by rcases h with h | ⟨j, hj, _⟩; exact h; omega⟩⟩
    · refine ⟨_, by simp only [g_loop_Occ_l2, dge, cond_false, wi64_succ (show i < 1000000000 by omega)], c, rfl, g1, fun q => ?_⟩
      rw [g2 q]
      constructor
      · rintro (h | ⟨j, _, hj⟩)
        · exact .inl h
        · exact .inr (List.mem_of_getElem? hj)
      · rintro (h | h)
        · exact .inl h
        · obtain ⟨j, hj⟩ := List.getElem?_of_mem h
          exact .inr ⟨j, ilt hj, hj⟩
    · have hkl := ilt hk
      right
      obtain ⟨-, x0, x1⟩ := InB_range hv hb2 ((hm e).1 (List.mem_of_getElem? hk))
      obtain ⟨y, hy⟩ := idx_of (l := c) (n := e) x0 (by omega)
      refine ⟨c.set e.toNat true, by simp only [g_loop_Occ_l2, dlt hk, cond_true, idx_nat, hk, Option.bind_some, x0, show e < (c.length : Int) by omega, decide_true, hy, wi64_succ (show k < 1000000000 by omega)]; rfl, by simp [g1], fun q => ?_⟩
      rw [set_iff x0 (by omega), g2 q]
      constructor
      · rintro ((h | ⟨j, hj, q1⟩) | h)
        · exact .inl h
        · exact .inr ⟨j, by omega, q1⟩
        · exact .inr ⟨k, by omega, by rw [h]; exact hk⟩
      · rintro (h | ⟨j, hj, q1⟩)
        · exact .inl (.inl h)
        · by_cases e' : j = k
          · subst e'; rw [hk] at q1; exact .inr (Option.some.inj q1).symm
          · exact .inl (.inr ⟨j, by omega, q1⟩)
  obtain ⟨r, hr, oc', rfl, k1, k2⟩ := inner
  refine ⟨oc', by simp only [g_loop_Occ_l1, dlt hi, cond_true, idx_nat, hi, Option.bind_some, hls, hr], k1, fun k => ?_⟩
  rw [k2 k, h2 k, hm, InL_succ hi]

theorem ROcc_sp (hv : Valid p) {len : Int} (l : List Body) (hl : l.length ≤ 12) (hs : ∀ (i : Nat) b, l[i]? = some b → b.trail.length ≤ 5000 ∧ BodyOK p len b) :
    ∃ oc, g_R24_Occ p l = some oc ∧ oc.length = p.elems.length ∧ ∀ k : Nat, oc[k]? = some true ↔ InL p l l.length k := by
  have hel := hv.few.elems
  have hmk : mkI (p.elems.length : Int) false = some (List.replicate p.elems.length false) := by
    unfold mkI; rw [if_pos (by omega)]; simp
  unfold g_R24_Occ
  simp only [Option.bind_some, hmk]
  refine loop_st (l := l) (I := fun i oc => oc.length = p.elems.length ∧ ∀ k : Nat, oc[k]? = some true ↔ InL p l i k)
    (fun oc ⟨h1, h2⟩ => ⟨oc, by simp only [g_R24_Occ_l1, dge, cond_false], h1, h2⟩) (fun i b oc hi ⟨h1, h2⟩ => ?_) ⟨by simp, fun k => ⟨fun h => (by cases List.eq_of_mem_replicate (List.mem_of_getElem? h)), fun h => (by obtain ⟨j, b, hj, _⟩ := h; omega)⟩⟩
  right
  obtain ⟨hb1, hb2⟩ := hs i b hi
  obtain ⟨ls, hls, -, hlen, hm⟩ := RLies_sp hv hb2 hb1
  have hil := ilt hi
  have inner : ∃ r, loopR (g_R24_Occ_l2 ((i : Int), oc) ls) (0, oc) = some r ∧ ∃ oc', r = .inl (((i + 1 : Nat) : Int), oc') ∧ oc'.length = p.elems.length ∧ ∀ k : Nat, oc'[k]? = some true ↔ oc[k]? = some true ∨ (k : Int) ∈ ls := by
    refine loop_st (l := ls) (I := fun k c => c.length = p.elems.length ∧ ∀ q : Nat, c[q]? = some true ↔ oc[q]? = some true ∨ ∃ j : Nat, j < k ∧ ls[j]? = some (q : Int))
      (fun c ⟨g1, g2⟩ => ?_) (fun k e c hk ⟨g1, g2⟩ => ?_) ⟨h1, fun q => ⟨.inl, fun h => by rcases h with h | ⟨j, hj, _⟩; exact h; omega⟩⟩
    · refine ⟨_, by simp only [g_R24_Occ_l2, dge, cond_false, wi64_succ (show i < 1000000000 by omega)], c, rfl, g1, fun q => ?_⟩
      rw [g2 q]
      constructor
      · rintro (h | ⟨j, _, hj⟩)
        · exact .inl h
        · exact .inr (List.mem_of_getElem? hj)
      · rintro (h | h)
        · exact .inl h
        · obtain ⟨j, hj⟩ := List.getElem?_of_mem h
          exact .inr ⟨j, ilt hj, hj⟩
    · have hkl := ilt hk
      right
      obtain ⟨-, x0, x1⟩ := InB_range hv hb2 ((hm e).1 (List.mem_of_getElem? hk))
      obtain ⟨y, hy⟩ := idx_of (l := c) (n := e) x0 (by omega)
      refine ⟨c.set e.toNat true, by simp only [g_R24_Occ_l2, dlt hk, cond_true, idx_nat, hk, Option.bind_some, hy, wi64_succ (show k < 1000000000 by omega)]; rfl, by simp [g1], fun q => ?_⟩
      rw [set_iff x0 (by omega), g2 q]
      constructor
      · rintro ((h | ⟨j, hj, q1⟩) | h)
        · exact .inl h
        · exact .inr ⟨j, by omega, q1⟩
        · exact .inr ⟨k, by omega, by rw [h]; exact hk⟩
      · rintro (h | ⟨j, hj, q1⟩)
        · exact .inl (.inl h)
        · by_cases e' : j = k
          · subst e'; rw [hk] at q1; exact .inr (Option.some.inj q1).symm
          · exact .inl (.inr ⟨j, by omega, q1⟩)
  obtain ⟨r, hr, oc', rfl, k1, k2⟩ := inner
  refine ⟨oc', by simp only [g_R24_Occ_l1, dlt hi, cond_true, idx_nat, hi, Option.bind_some, hls, hr], k1, fun k => ?_⟩
  rw [k2 k, h2 k, hm, InL_succ hi]

/-- The two tell the same of the loops. -/
theorem Loops_eq (hn : NetOf p n) (hv : Valid p) {len : Int} (l : List Body) (hl : l.length ≤ 12) (hs : ∀ (i : Nat) b, l[i]? = some b → b.trail.length ≤ 5000 ∧ BodyOK p len b) :
    ∃ r, g_loop_Loops n l = some r ∧ g_R24_Loops p l = some r ∧ r.1.length = p.signals.length ∧ r.2.length = p.signals.length := by
  have hsg := hv.few.signals
  have hmk : mkI (p.signals.length : Int) false = some (List.replicate p.signals.length false) := by
    unfold mkI; rw [if_pos (by omega)]; simp
  unfold g_loop_Loops g_net_Net_Signals g_R24_Loops
  rw [hn.plan]
  simp only [Option.bind_some, hmk]
  obtain ⟨a, b, ha, hb, rfl, h1, h2⟩ := loop_two (f := g_loop_Loops_l1 n l) (g := g_R24_Loops_l1 p l) (Post := fun a b => a = b ∧ a.1.length = p.signals.length ∧ a.2.length = p.signals.length)
    (fun k s t => s = t ∧ s.1 = (k : Int) ∧ k ≤ l.length ∧ s.2.1.length = p.signals.length ∧ s.2.2.length = p.signals.length) l.length
    (fun k s t => by
      rintro ⟨rfl, hk, hkl, g1, g2⟩
      obtain ⟨i, c1, c2⟩ := s
      simp only at hk g1 g2
      subst hk
      by_cases he : k = l.length
      · subst he
        exact .inl ⟨(c1, c2), (c1, c2), by simp only [g_loop_Loops_l1, dge, cond_false], by simp only [g_R24_Loops_l1, dge, cond_false], rfl, g1, g2⟩
      · have hi : l[k]? = some (l[k]'(by omega)) := List.getElem?_eq_getElem _
        generalize l[k]'(by omega) = b at hi
        obtain ⟨hb1, hb2⟩ := hs k b hi
        have hw := wi64_succ (show k < 1000000000 by omega)
        have keep : ∀ s, g_loop_inside n b = some s → s < 0 → ∀ t, g_R24_Loops_l1 p l ((k : Int), c1, c2) = some (.inl t) → t = (((k + 1 : Nat) : Int), c1, c2) →
            ∃ s' t', g_loop_Loops_l1 n l ((k : Int), c1, c2) = some (.inl s') ∧ g_R24_Loops_l1 p l ((k : Int), c1, c2) = some (.inl t') ∧ (s' = t' ∧ s'.1 = ((k + 1 : Nat) : Int) ∧ k + 1 ≤ l.length ∧ s'.2.1.length = p.signals.length ∧ s'.2.2.length = p.signals.length) := by
          rintro s h1 h2 t h3 rfl
          refine ⟨_, _, ?_, h3, rfl, rfl, by omega, g1, g2⟩
          simp only [g_loop_Loops_l1, dlt hi, cond_true, idx_nat, hi, Option.bind_some, h1, show ¬ 0 ≤ s by omega, decide_false, cond_false, hw]
        right
        refine ⟨by omega, ?_⟩
        by_cases m2 : b.mode = 2
        · have hh := hb2.heads (.inl m2)
          obtain ⟨x, hx, hx'⟩ := last_idx hh.ne (by omega)
          have hin := loop_inside_eq hn hv (show b.trail.length < 1000000 by omega) hx' hb2.left.1
          by_cases o : 0 < b.over
          · rw [if_neg (by omega)] at hin
            exact keep _ hin (by omega) _ (by simp only [g_R24_Loops_l1, dlt hi, cond_true, idx_nat, hi, Option.bind_some, cbne, if_pos m2, o, decide_true, hw]) rfl
          · have hod : decide (0 < b.over) = false := decide_eq_false o
            have ho := hb2.over.1
            have rR := g_R6_Reads_eq p (show p.signals.length < 1000000 by omega) x
            by_cases c : 0 ≤ readsP p x ∧ b.left ≤ p.margin
            · rw [if_pos ⟨m2, by omega, c.1, c.2⟩] at hin
              have hlt : readsP p x < (p.signals.length : Int) := by rcases readsP_cases p x with e | e <;> omega
              obtain ⟨y, hy⟩ := idx_of (l := c1) (n := readsP p x) c.1 (by omega)
              obtain ⟨z, hz⟩ := idx_of (l := c2) (n := readsP p x) c.1 (by omega)
              have hil : decide (0 ≤ readsP p x ∧ 0 ≤ b.left ∧ b.left ≤ p.margin) = true := by have := hb2.left; simp; omega
              cases z with
              | true =>
                refine ⟨(((k + 1 : Nat) : Int), setI c1 (readsP p x) true, setI c2 (readsP p x) true), (((k + 1 : Nat) : Int), setI c1 (readsP p x) true, setI c2 (readsP p x) true), by simp only [g_loop_Loops_l1, dlt hi, cond_true, idx_nat, hi, Option.bind_some, hin, c.1, show readsP p x < (c1.length : Int) by omega, decide_true, hy, hz, hw], by simp only [g_R24_Loops_l1, dlt hi, cond_true, idx_nat, hi, Option.bind_some, cbne, if_pos m2, hod, cond_false, hx, rR, R6_InLoop_eq hv.few, hil, hy, hz, hw], rfl, rfl, by omega, by simp [setI, g1], by simp [setI, g2]⟩
              | false =>
                refine ⟨(((k + 1 : Nat) : Int), setI c1 (readsP p x) true, setI c2 (readsP p x) (b.v == 0)), (((k + 1 : Nat) : Int), setI c1 (readsP p x) true, setI c2 (readsP p x) (b.v == 0)), by simp only [g_loop_Loops_l1, dlt hi, cond_true, idx_nat, hi, Option.bind_some, hin, c.1, show readsP p x < (c1.length : Int) by omega, decide_true, hy, hz, cond_false, hw], by simp only [g_R24_Loops_l1, dlt hi, cond_true, idx_nat, hi, Option.bind_some, cbne, if_pos m2, hod, cond_false, hx, rR, R6_InLoop_eq hv.few, hil, hy, hz, hw], rfl, rfl, by omega, by simp [setI, g1], by simp [setI, g2]⟩
            · rw [if_neg (fun h => c ⟨h.2.2.1, h.2.2.2⟩)] at hin
              have hil : decide (0 ≤ readsP p x ∧ 0 ≤ b.left ∧ b.left ≤ p.margin) = false := decide_eq_false fun h => c ⟨h.1, h.2.2⟩
              exact keep _ hin (by omega) _ (by simp only [g_R24_Loops_l1, dlt hi, cond_true, idx_nat, hi, Option.bind_some, cbne, if_pos m2, hod, cond_false, hx, rR, R6_InLoop_eq hv.few, hil, hw]) rfl
        · obtain ⟨s, hin, hs'⟩ := inside_ok hn hv hb2 hb1
          have hneg : s < 0 := by
            by_cases h : s < 0
            · exact h
            · obtain ⟨_, _, q, _⟩ := hs' (by omega); exact absurd q m2
          exact keep s hin hneg _ (by simp only [g_R24_Loops_l1, dlt hi, cond_true, idx_nat, hi, Option.bind_some, cbne, if_neg m2, hw]) rfl)
    (s := (0, List.replicate p.signals.length false, List.replicate p.signals.length false)) (t := (0, List.replicate p.signals.length false, List.replicate p.signals.length false)) ⟨rfl, rfl, by omega, by simp, by simp⟩
  exact ⟨a, ha, hb, h1, h2⟩

/-! ### who is first -/
/-- Two wait in one Gate. -/
def clashB (b c : Body) : Bool := b.mode == 1 && c.mode == 1 && (b.trail[0]?.map (·.elem) == c.trail[0]?.map (·.elem))

def firstB (l : List Body) (i : Nat) (b : Body) : Bool := (l.take i).all fun c => !clashB b c

theorem gate_sp {len : Int} {b : Body} (hb : BodyOK p len b) (hl : b.trail.length ≤ 5000) : ∃ e, g_loop_gate b = some (e, b.mode == 1) ∧ (b.mode = 1 → ∃ h, b.trail = [h] ∧ h.elem = e ∧ h.fin = 0) := by
  unfold g_loop_gate
  cases hlast : b.trail[b.trail.length - 1]? with
  | none =>
    have hnil : b.trail = [] := List.length_eq_zero_iff.1 (by have := List.getElem?_eq_none_iff.1 hlast; omega)
    have m1 : ¬ b.mode = 1 := fun h => by obtain ⟨g, ht, _⟩ := hb.waits h; rw [hnil] at ht; cases ht
    have mb : (b.mode == 1) = false := beq_eq_false_iff_ne.2 m1
    refine ⟨0, ?_, fun h => absurd h m1⟩
    unfold g_body_Head
    simp [hnil, mb]
  | some h =>
    refine ⟨h.elem, by simp only [Head_eq (show b.trail.length < 1000000 by omega) hlast, Option.bind_some, cond_true], fun m1 => ?_⟩
    obtain ⟨g, ht, h0, _⟩ := hb.waits m1
    rw [ht] at hlast
    simp at hlast; subst hlast
    exact ⟨g, ht, rfl, h0⟩

theorem take_slI (l : List Body) (i : Nat) (h : i ≤ l.length) : slI l 0 (i : Int) = some (l.take i) := by
  unfold slI
  rw [if_pos (by omega)]
  simp

theorem First_sp {len : Int} (l : List Body) (hl : l.length ≤ 12) (hs : ∀ (i : Nat) b, l[i]? = some b → b.trail.length ≤ 5000 ∧ BodyOK p len b) :
    ∃ r, g_loop_First l = some r ∧ r.length = l.length ∧ ∀ (i : Nat) b, l[i]? = some b → r[i]? = some (firstB l i b) := by
  have hmk : mkI (l.length : Int) false = some (List.replicate l.length false) := by
    unfold mkI; rw [if_pos (by omega)]; simp
  unfold g_loop_First
  simp only [hmk, Option.bind_some]
  refine loop_st (l := l) (I := fun i r => r.length = l.length ∧ ∀ (j : Nat) b, j < i → l[j]? = some b → r[j]? = some (firstB l j b)) (fun r ⟨h1, h2⟩ => ⟨r, by simp only [g_loop_First_l1, dge, cond_false], h1, fun i b hi => h2 i b (ilt hi) hi⟩)
    (fun i b r hi ⟨h1, h2⟩ => ?_) ⟨by simp, fun j b hj => by omega⟩
  right
  have hil := ilt hi
  obtain ⟨hb1, hb2⟩ := hs i b hi
  obtain ⟨e, hg, hg'⟩ := gate_sp hb2 hb1
  obtain ⟨y, hy⟩ : ∃ y, r[i]? = some y := ⟨_, List.getElem?_eq_getElem (by omega)⟩
  have fin : ∀ v, v = firstB l i b → (r.set i v).length = l.length ∧ ∀ (j : Nat) c, j < i + 1 → l[j]? = some c → (r.set i v)[j]? = some (firstB l j c) := by
    rintro v rfl
    refine ⟨by simp [h1], fun j c hj hc => ?_⟩
    by_cases ej : j = i
    · subst ej; rw [hi] at hc; cases hc; exact List.getElem?_set_self (by omega)
    · rw [List.getElem?_set_ne (fun h => ej h.symm)]; exact h2 j c (by omega) hc
  have hset : ∀ v : Bool, setI r (i : Int) v = r.set i v := fun v => rfl
  by_cases m1 : b.mode = 1
  · have mb : (b.mode == 1) = true := by simp [m1]
    obtain ⟨h, ht, he, h0⟩ := hg' m1
    have inner : ∃ t, loopR (g_loop_First_l2 (e, true) (l.take i)) 0 = some t ∧ (decide (0 ≤ t) = !firstB l i b) := by
      refine loop_ix (l := l.take i) (step := g_loop_First_l2 (e, true) (l.take i)) (fun _ c => clashB b c = false) (fun good => ?_) (fun j c hj _ => ?_)
      · refine ⟨-1, by simp only [g_loop_First_l2, dge, cond_false], ?_⟩
        have : firstB l i b = true := by
          unfold firstB
          rw [List.all_eq_true]
          intro c hc
          obtain ⟨j, hj⟩ := List.getElem?_of_mem hc
          simp [good j c hj]
        simp [this]
      · have hjl := ilt hj
        rw [List.length_take] at hjl
        have hjc : l[j]? = some c := by rw [List.getElem?_take, if_pos (by omega)] at hj; exact hj
        obtain ⟨hc1, hc2⟩ := hs j c hjc
        obtain ⟨e', hq, hq'⟩ := gate_sp hc2 hc1
        have hcl : g_loop_First_1 c e = some (clashB b c) := by
          unfold g_loop_First_1
          simp only [hq, Option.bind_some]
          by_cases mc : c.mode = 1
          · obtain ⟨h', ht', he', _⟩ := hq' mc
            simp only [mc, beq_self_eq_true, cond_true, Option.bind_some, clashB, m1, ht, ht', Bool.true_and, List.getElem?_cons_zero, Option.map_some]
            congr 1
            rw [← he, ← he', Bool.eq_iff_iff]
            simp only [beq_iff_eq, Option.some.injEq]
            exact eq_comm
          · have : (c.mode == 1) = false := beq_eq_false_iff_ne.2 mc
            simp only [this, cond_false, Option.bind_some, clashB, Bool.and_false, Bool.false_and]
        cases hcb : clashB b c with
        | true =>
          refine .inl ⟨(j : Int), by simp only [g_loop_First_l2, dlt hj, cond_true, idx_nat, hj, Option.bind_some, hcl, hcb], ?_⟩
          have : firstB l i b = false := by
            unfold firstB
            rw [List.all_eq_false]
            exact ⟨c, List.mem_of_getElem? hj, by simp [hcb]⟩
          simp [this]
        | false => exact .inr ⟨by simp only [g_loop_First_l2, dlt hj, cond_true, idx_nat, hj, Option.bind_some, hcl, hcb, cond_false, wi64_succ (show j < 1000000000 by omega)], rfl⟩
    obtain ⟨t, ht1, ht2⟩ := inner
    refine ⟨r.set i (firstB l i b), ?_, fin _ rfl⟩
    rw [mb] at hg
    simp only [g_loop_First_l1, dlt hi, cond_true, idx_nat, hi, Option.bind_some, hg, Bool.not_true, cond_false, take_slI l i (by omega), ht1, ht2, hy, hset, Bool.not_not, wi64_succ (show i < 1000000000 by omega)]
  · have mb : (b.mode == 1) = false := beq_eq_false_iff_ne.2 m1
    have : firstB l i b = true := by
      unfold firstB
      rw [List.all_eq_true]
      intro c _
      simp [clashB, mb]
    refine ⟨r.set i true, ?_, fin true this.symm⟩
    rw [mb] at hg
    simp only [g_loop_First_l1, dlt hi, cond_true, idx_nat, hi, Option.bind_some, hg, Bool.not_false, hy, hset, wi64_succ (show i < 1000000000 by omega)]

theorem RFirst_sp {len : Int} (l : List Body) (hl : l.length ≤ 12) (hs : ∀ (i : Nat) b, l[i]? = some b → b.trail.length ≤ 5000 ∧ BodyOK p len b) :
    ∃ r, g_R24_First l = some r ∧ r.length = l.length ∧ ∀ (i : Nat) b, l[i]? = some b → r[i]? = some (firstB l i b) := by
  unfold g_R24_First
  refine loop_st (l := l) (I := fun i r => r.length = i ∧ ∀ (j : Nat) b, j < i → l[j]? = some b → r[j]? = some (firstB l j b)) (fun r ⟨h1, h2⟩ => ⟨r, by simp only [g_R24_First_l1, dge, cond_false], h1, fun i b hi => h2 i b (ilt hi) hi⟩)
    (fun i b r hi ⟨h1, h2⟩ => ?_) ⟨rfl, fun j b hj => by omega⟩
  right
  have hil := ilt hi
  obtain ⟨hb1, hb2⟩ := hs i b hi
  -- the inner loop, its state turned round
  have inner : ∃ t, loopR (g_R24_First_l2 ((i : Int), r) b (l.take i)) (true, ((0 : Nat) : Int)) = some t ∧ t = .inl (((i + 1 : Nat) : Int), r ++ [firstB l i b]) := by
    refine loop_up (fun k s => s.2 = (k : Int) ∧ k ≤ (l.take i).length ∧ s.1 = ((l.take i).take k).all fun c => !clashB b c) (l.take i).length ?_ ⟨rfl, Nat.zero_le _, by simp⟩
    rintro k ⟨ok, s⟩ ⟨hs1, hk, hok⟩
    simp only at hs1 hok
    subst hs1
    by_cases he : k = (l.take i).length
    · left
      have hok' : ok = firstB l i b := by rw [hok, he, List.take_length]; rfl
      subst hok'
      refine ⟨_, ?_, rfl⟩
      rw [he]
      simp only [g_R24_First_l2, dge, cond_false, appI_ok (show r.length + [firstB l i b].length ≤ 4294967296 by simp; omega), Option.bind_some, wi64_succ (show i < 1000000000 by omega), Option.map_some]
    · right
      have hkl : k < (l.take i).length := by omega
      have hj : (l.take i)[k]? = some ((l.take i)[k]'hkl) := List.getElem?_eq_getElem _
      generalize (l.take i)[k]'hkl = c at hj
      rw [List.length_take] at hkl
      have hjc : l[k]? = some c := by rw [List.getElem?_take, if_pos (by omega)] at hj; exact hj
      obtain ⟨hc1, hc2⟩ := hs k c hjc
      have hnew : ((l.take i).take (k + 1)).all (fun c => !clashB b c) = (ok && !clashB b c) := by
        rw [hok, List.take_add_one, hj]
        simp [List.all_append]
      have val : ((bif ok then bif (b.mode != 1) then some true else bif (c.mode != 1) then some true else (idx b.trail 0).bind fun y3645 => (idx c.trail 0).bind fun y3647 => some (!(y3645 == y3647)) else some false : Option Bool)) = some (ok && !clashB b c) := by
        cases ok with
        | false => rfl
        | true =>
          simp only [cond_true, cbne, Bool.true_and]
          by_cases mb : b.mode = 1
          · by_cases mc : c.mode = 1
            · obtain ⟨h, ht, h0, _⟩ := hb2.waits mb
              obtain ⟨h', ht', h0', _⟩ := hc2.waits mc
              have i0 : idx [h] 0 = some h := rfl
              have i1 : idx [h'] 0 = some h' := rfl
              simp only [mb, mc, if_true, clashB, beq_self_eq_true, ht, ht', i0, i1, Option.bind_some, Bool.true_and, List.getElem?_cons_zero, Option.map_some]
              congr 2
              rw [Bool.eq_iff_iff]
              simp only [beq_iff_eq, Option.some.injEq]
              constructor
              · rintro rfl; rfl
              · intro q; cases h; cases h'; simp only at q h0 h0'; subst q h0 h0'; rfl
            · have : (c.mode == 1) = false := beq_eq_false_iff_ne.2 mc
              simp [mb, mc, clashB]
          · have : (b.mode == 1) = false := beq_eq_false_iff_ne.2 mb
            simp [mb, clashB]
      refine ⟨by omega, (ok && !clashB b c, ((k + 1 : Nat) : Int)), ?_, rfl, by simp; omega, by simp only; rw [hnew]⟩
      simp only [g_R24_First_l2, dlt hj, cond_true, idx_nat, hj, Option.bind_some, val, wi64_succ (show k < 1000000000 by omega)]
  obtain ⟨t, ht, rfl⟩ := inner
  rw [show ((0 : Nat) : Int) = 0 from rfl] at ht
  refine ⟨r ++ [firstB l i b], by simp only [g_R24_First_l1, dlt hi, cond_true, idx_nat, hi, Option.bind_some, take_slI l i (by omega), ht], by simp [h1], fun j c hj hc => ?_⟩
  by_cases ej : j = i
  · subst ej; rw [hi] at hc; cases hc
    rw [List.getElem?_append_right (by omega), h1]; simp
  · rw [List.getElem?_append_left (by omega)]; exact h2 j c (by omega) hc

end

theorem LoopTells_true (p : Plan) (len : Int) (l : List Body) : g_L24_LoopTells p len l = some true := by
  unfold g_L24_LoopTells
  simp only [known_holds, Option.bind_some, Bool.not_true, cond_false]
  by_cases c0 : (12 : Int) < (l.length : Int)
  · simp only [c0, decide_true, cond_true, Option.bind_some]
  obtain ⟨f, hf, hfine⟩ := fine_total p
  simp only [c0, decide_false, cond_false, hf, Option.bind_some]
  cases f with
  | false => rfl
  | true =>
    have hv := hfine rfl
    have hsg := hv.few.signals
    have hel := hv.few.elems
    simp only [Bool.not_true, cond_false]
    have key : ∃ b, loopR (g_L24_LoopTells_l1 p len l) ((0 : Nat) : Int) = some b ∧ b = true := by
      refine loop_ix (l := l) (step := g_L24_LoopTells_l1 p len l) (Post := fun b => b = true) (fun _ b => b.trail.length ≤ 5000 ∧ BodyOK p len b) (fun good => ?_) (fun i b hi _ => ?_)
      · obtain ⟨o, ho, hn⟩ := made_total p
        obtain ⟨n, rfl, hno⟩ := hn hf
        obtain ⟨r, hr1, hr2, r1, r2⟩ := Loops_eq hno hv l (by omega) good
        obtain ⟨a, ha, a1, a2⟩ := First_sp l (by omega) good
        obtain ⟨b, hb, b1, b2⟩ := RFirst_sp l (by omega) good
        have hab : a = b := by
          apply List.ext_getElem?
          intro i
          by_cases h : i < l.length
          · rw [a2 i _ (List.getElem?_eq_getElem h), b2 i _ (List.getElem?_eq_getElem h)]
          · rw [List.getElem?_eq_none (by omega), List.getElem?_eq_none (by omega)]
        subst hab
        obtain ⟨c, hc, c1, c2⟩ := Occ_sp hno hv l (by omega) good
        obtain ⟨d, hd, d1, d2⟩ := ROcc_sp hv l (by omega) good
        have hcd : c = d := bools_eq (by omega) fun i => by rw [c2 i, d2 i]
        subst hcd
        refine ⟨true, ?_, rfl⟩
        simp only [g_L24_LoopTells_l1, dge, cond_false, ho, Option.bind_some, optM, hr1, hr2, ha, hb, hc, hd, SameBools_refl a (by omega), SameBools_refl c (by omega), SameBools_refl r.1 (by omega), SameBools_refl r.2 (by omega), cond_true, Option.map_some]
      · have := ilt hi
        by_cases a2 : (5000 : Int) < (b.trail.length : Int)
        · exact .inl ⟨true, by simp only [g_L24_LoopTells_l1, dlt hi, cond_true, idx_nat, hi, Option.bind_some, a2, decide_true], rfl⟩
        · obtain ⟨r, hr, hr'⟩ := MayBody_total p hv len b (by omega)
          cases r with
          | false => exact .inl ⟨true, by simp only [g_L24_LoopTells_l1, dlt hi, cond_true, idx_nat, hi, Option.bind_some, a2, decide_false, cond_false, hr, Bool.not_false], rfl⟩
          | true => exact .inr ⟨by simp only [g_L24_LoopTells_l1, dlt hi, cond_true, idx_nat, hi, Option.bind_some, a2, decide_false, cond_false, hr, Bool.not_true, wi64_succ (show i < 1000000000 by omega)], by omega, hr' rfl⟩
    obtain ⟨b, hb, rfl⟩ := key
    exact hb

end Go.E
