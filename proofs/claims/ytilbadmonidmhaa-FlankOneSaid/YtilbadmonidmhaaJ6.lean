/- Plain Lean: the flank of a road: the document's answer and the program's are one (law FlankOfs). No condition. -/
import Derived.Test.YtilbadmonidmhaaJ5
set_option linter.unusedVariables false
set_option linter.unusedSimpArgs false
namespace Go.E
open Go
section
variable {p : Plan} {n : Net} {r : Road}
theorem on_once (hv : Valid p) (g : List Need) (z h : List Int) (b : Bool) (met : List Port) {x y : Port} (hy : nextP p x = some y) {g' : List Need} {z' h' : List Int} {b' : Bool} {met' : List Port} (hc : comeG 1000 (mkS p r g z h b met, y) = some (mkS p r g' z' h' b' met')) :
  g_R12_search_on (mkS p r g z h b met) x.elem x.fin = some (mkS p r g' z' h' b' met') := by
 have hj := hv.nj
 show g_R12_search_on_b (recF (fun (rc : (R12Search × Int × Int) → Option R12Search) (a : (R12Search × Int × Int)) => g_R12_search_on_b rc a.1 a.2.1 a.2.2) 999) (mkS p r g z h b met) x.elem x.fin = _
 have hc' : g_R12_search_come (mkS p r g z h b met) y = some (mkS p r g' z' h' b' met') := hc
 unfold g_R12_search_on_b mkS at *
 simp only [g_R6_Next_eq p (show p.joins.length < 1000000 by omega), hy, Option.bind_some, Option.isSome_some, cond_true, Option.getD_some, hc']
def flT (p : Plan) (r : Road) (i : Int) (g : List Need) (z h : List Int) (b : Bool) (met : List Port) : Int × (List Elem) × (List Join) × (List Signal) × (List Line) × Int × Int × Int × Int × Bool × Int × Int × Int × (List Step) × (List Need) × Bool × (List Need) × (List Int) × (List Int) × (List Port) :=
 (i, p.elems, p.joins, p.signals, p.lines, p.top, p.brake, p.margin, p.throw, p.hard, r.frm, r.to, r.fin, r.steps, r.needs, b, g, z, h, met)
theorem Flank_loop (hv : Valid p) (hn : NetOf p n) (h1 : r.steps.length ≤ 12) (h2 : r.needs.length ≤ 1000) (L : List Port) (hL : L.length ≤ 24) (hLj : ∀ x ∈ L, ∃ y, nextP p x = some y) : ∀ (rest : List Port) (i : Nat) (b : Bool) (vis : List (Port × Bool)) (g : List Need) (z h : List Int) (met : List Port) (k : Nat), L.drop i = rest → i ≤ L.length → CI p vis g z h met → FI p r.steps 700 k vis g z h (startQ p rest).reverse →
  ∃ R, loopR (g_R12_Flank_l1 L) (flT p r (i : Int) g z h b met) = some R ∧ loopR (g_flank_Of_l2 n r r.steps r.needs p) (b, vis, g, z, h, (startQ p rest).reverse) = some R := by
 have hj := hv.nj
 intro rest
 induction rest with
 | nil =>
  intro i b vis g z h met k hd hi hc hf
  have : i = L.length := by have := congrArg List.length hd; simp at this; omega
  subst this
  refine ⟨⟨r.frm, r.to, r.fin, r.steps, r.needs, g, z, h, b⟩, loopR_inr ?_, loopR_inr rfl⟩
  simp [g_R12_Flank_l1, flT]
 | cons x rest ih =>
  intro i b vis g z h met k hd hi hc hf
  have hlt : i < L.length := by have := congrArg List.length hd; simp at this; omega
  have hx : L[i]? = some x := by
   have : (L.drop i)[0]? = some x := by rw [hd]; rfl
   simpa using this
  have hr : L.drop (i + 1) = rest := by
   have : (L.drop i).drop 1 = rest := by rw [hd]; rfl
   rwa [List.drop_drop] at this
  obtain ⟨y, hy⟩ := hLj x (List.mem_of_getElem? hx)
  have hq : (startQ p (x :: rest)).reverse = (startQ p rest).reverse ++ [y] := by unfold startQ; simp [hy]
  have hu : unv p vis < 1000 := by
   have h3 : unv p vis ≤ (portsP p).length := List.length_filter_le _ _
   have h4 : (portsP p).length = 2 * p.joins.length := flat_len2 _
   omega
  obtain ⟨b', vis', g', z', h', met', e1, i1, u1, s1⟩ := come_eq hv hn h1 h2 1000 b vis g z h met y hu (next_port hy) hc
  rw [hq] at hf ⊢
  obtain ⟨k', e2, f2⟩ := s1 _ _ hf
  obtain ⟨R, e3, e4⟩ := ih (i + 1) b' vis' g' z' h' met' k' hr (by omega) i1 f2
  refine ⟨R, ?_, by rw [e2, e4]⟩
  rw [← e3]
  refine loopR_inl ?_
  have hon := on_once (r := r) hv g z h b met hy e1
  unfold mkS at hon
  simp only [g_R12_Flank_l1, flT, dlt hx, cond_true, idx_nat, hx, Option.bind_some]
  rw [hon]
  simp only [Option.bind_some, wi64_succ (show i < 1000000000 by omega)]
  simp only [Int.ofNat_lt, hlt, decide_true, cond_true]
theorem Flank_eq (hv : Valid p) (hn : NetOf p n) (h1 : r.steps.length ≤ 12) (h2 : r.needs.length ≤ 1000) : ∃ R, g_R12_Flank p r = some R ∧ g_flank_Of n r = some R := by
 have hj := hv.nj
 have hp := portsF_len (p := p) r.steps
 rw [flank_start hv hn h1 h2]
 unfold g_R12_Flank
 simp only [appI_ok (show ([] : List Step).length + r.steps.length ≤ 4294967296 by simp; omega), appI_ok (show ([] : List Need).length + r.needs.length ≤ 4294967296 by simp; omega), List.nil_append, Option.bind_some, Ports2_eq hv r (show r.steps.length ≤ 1000 by omega)]
 have h3 : unv p [] ≤ (portsP p).length := List.length_filter_le _ _
 have h4 : (portsP p).length = 2 * p.joins.length := flat_len2 _
 refine Flank_loop hv hn h1 h2 (portsF p r.steps) (by omega) (fun x hx => ports_joined hx) (portsF p r.steps) 0 false [] [] [] [] [] 0 rfl (Nat.zero_le _) ⟨fun y => by simp [seenB, assoc], by simp, by simp; omega, by simp; omega, by simp; omega⟩ ⟨⟨by simp, by simp, by simp, by simp⟩, ⟨by simp, by simp⟩, fun _ => rfl, fun y hy => ?_, by simp, by simp, ?_⟩
 ·have := List.mem_reverse.1 hy
  obtain ⟨x, hx, rfl⟩ := List.mem_map.1 this
  obtain ⟨y, hy⟩ := ports_joined hx
  rw [hy]
  exact next_port hy
 ·simp only [startQ, List.length_reverse, List.length_map]
  omega
end
end Go.E
/- Plain Lean: whether a road is ready, by the program and by the document (law FlankReady). No condition. -/
namespace Go.E
open Go
theorem any_loop {α β : Type} {l : List α} {step : Int → Option (Int ⊕ β)} (bad : α → Bool) (x : β) (fin : Option β) (h0 : step (l.length : Int) = fin.map .inr)
  (h1 : ∀ (i : Nat) a, l[i]? = some a → step (i : Int) = if bad a = true then some (.inr x) else some (.inl ((i + 1 : Nat) : Int))) : loopR step 0 = if l.any bad = true then some x else fin := by
 refine loop_list (γ := Unit) l (fun i _ => (i : Int)) (fun _ _ r => if r.any bad = true then some x else fin) (fun _ => ?_) (fun i c a r ha hi => ?_) ()
 ·simpa using h0
 ·rw [h1 i a ha]
  cases hb : bad a with
  | true => left; simp [hb]
  | false => right; exact ⟨(), by simp, by simp [hb]⟩
def takenF (occ : List Bool) (e : Int) : Bool := (idx occ e).getD false
def badN (pos : List Int) (m : Need) : Bool := !(decide (idx pos m.elem = some m.pos ∧ m.pos ≠ 0))
def readyF (bad : Need → Bool) (r : Road) (occ : List Bool) : Bool := !(r.needs.any bad) && !(r.guards.any bad) && !(r.steps.any fun s => takenF occ s.elem) && !(r.zone.any (takenF occ))
theorem taken_eq (e : Int) (occ : List Bool) : (bif decide (0 ≤ e) then bif decide (e < (occ.length : Int)) then (idx occ e).bind fun y => some y else some false else some false : Option Bool) = some (takenF occ e) := by
 unfold takenF
 by_cases c1 : 0 ≤ e
 ·by_cases c2 : e < (occ.length : Int)
  ·obtain ⟨a, ha⟩ := idx_of c1 c2
   simp [c1, c2, ha]
  ·rw [idx_none (.inr (by omega))]
   simp [c1, c2]
 ·rw [idx_none (.inl (by omega))]
  simp [c1]
theorem Ready_1_eq (e : Int) (occ : List Bool) : g_flank_Ready_1 e occ = some (takenF occ e) := by
 unfold g_flank_Ready_1
 rw [taken_eq]; rfl
theorem Ready_l2 (pos : List Int) (s : Int) (l : List Need) (hl : l.length < 1000000) : loopR (g_flank_Ready_l2 pos s l) 0 = if l.any (badN pos) = true then some (.inr false) else some (.inl (wi64 (s + 1))) := by
 refine any_loop (badN pos) _ _ ?_ fun i a ha => ?_
 ·simp [g_flank_Ready_l2]
 ·have hi := (List.getElem?_eq_some_iff.1 ha).1
  simp only [g_flank_Ready_l2, dlt ha, cond_true, idx_nat, ha, Option.bind_some]
  unfold badN
  by_cases c1 : a.elem < 0
  ·rw [idx_none (.inl c1)]
   simp [c1]
  ·by_cases c2 : (pos.length : Int) ≤ a.elem
   ·rw [idx_none (.inr c2)]
    simp [c1, c2]
   ·obtain ⟨y, hy⟩ := idx_of (l := pos) (n := a.elem) (by omega) (by omega)
    simp only [c1, c2, decide_false, cond_false, hy, Option.bind_some, Option.some.injEq]
    by_cases c3 : y = a.pos
    ·have cb : (y != a.pos) = false := by simp [c3]
     by_cases c4 : a.pos = 0
     ·simp [cb, c4]
     ·have cz : (a.pos == 0) = false := beq_eq_false_iff_ne.2 c4
      simp only [cb, cond_false, cz, Option.bind_some, wi64_succ (show i < 1000000000 by omega)]
      simp [c3, c4]
    ·have cb : (y != a.pos) = true := by simp [c3]
     simp only [cb, cond_true, Option.bind_some]
     simp [c3]
theorem flank_Ready_eq (r : Road) (pos : List Int) (occ : List Bool) (h1 : r.needs.length < 1000000) (h2 : r.guards.length < 1000000) (h3 : r.steps.length < 1000000) (h4 : r.zone.length < 1000000) : g_flank_Ready r pos occ = some (readyF (badN pos) r occ) := by
 unfold g_flank_Ready
 have e4 : loopR (g_flank_Ready_l4 r occ) 0 = some (if r.zone.any (takenF occ) = true then ((r.zone.findIdx (takenF occ) : Nat) : Int) else -1) := by
  have key := loop_list (γ := Unit) r.zone (fun i _ => (i : Int)) (fun i _ q => some (if q.any (takenF occ) = true then ((i + q.findIdx (takenF occ) : Nat) : Int) else -1)) (step := g_flank_Ready_l4 r occ) (fun _ => by simp [g_flank_Ready_l4]) (fun i c a q ha hi => by
   simp only [g_flank_Ready_l4, dlt ha, cond_true, idx_nat, ha, Option.bind_some, Ready_1_eq]
   cases hb : takenF occ a with
   | true => left; simp [hb, List.findIdx_cons]
   | false =>
    right
    refine ⟨(), by simp [wi64_succ (show i < 1000000000 by omega)], ?_⟩
    simp only [List.any_cons, hb, Bool.false_or, List.findIdx_cons, cond_false]
    rw [show i + (q.findIdx (takenF occ) + 1) = i + 1 + q.findIdx (takenF occ) by omega]) ()
  simpa using key
 have e3 : loopR (g_flank_Ready_l3 r occ) 0 = if r.steps.any (fun s => takenF occ s.elem) = true then some false else some (!(r.zone.any (takenF occ))) := by
  refine any_loop (fun s : Step => takenF occ s.elem) _ _ ?_ fun i a ha => ?_
  ·have d : decide (((r.steps.length : Nat) : Int) < (r.steps.length : Int)) = false := by simp
   simp only [g_flank_Ready_l3, d, cond_false, e4, Option.bind_some, Option.map_some]
   cases r.zone.any (takenF occ) <;> simp
  ·have hi := (List.getElem?_eq_some_iff.1 ha).1
   simp only [g_flank_Ready_l3, dlt ha, cond_true, idx_nat, ha, Option.bind_some, Ready_1_eq]
   cases takenF occ a.elem <;> simp [wi64_succ (show i < 1000000000 by omega)]
 have w1 : wi64 ((0 : Int) + 1) = 1 := by decide
 have w2 : wi64 ((1 : Int) + 1) = 2 := by decide
 have s0 : g_flank_Ready_l1 r pos occ 0 = loopR (g_flank_Ready_l2 pos 0 r.needs) 0 := rfl
 have s1 : g_flank_Ready_l1 r pos occ 1 = loopR (g_flank_Ready_l2 pos 1 r.guards) 0 := rfl
 have s2 : g_flank_Ready_l1 r pos occ 2 = (loopR (g_flank_Ready_l3 r occ) 0).map .inr := rfl
 rw [Ready_l2 pos 0 r.needs h1, w1] at s0
 rw [Ready_l2 pos 1 r.guards h2, w2] at s1
 rw [e3] at s2
 unfold readyF
 cases c1 : r.needs.any (badN pos) with
 | true =>
  rw [c1] at s0
  rw [loopR_inr s0]; rfl
 | false =>
  rw [c1] at s0
  rw [loopR_inl s0]
  cases c2 : r.guards.any (badN pos) with
  | true =>
   rw [c2] at s1
   rw [loopR_inr s1]; rfl
  | false =>
   rw [c2] at s1
   rw [loopR_inl s1]
   cases c3 : r.steps.any (fun s => takenF occ s.elem) with
   | true => rw [c3] at s2; rw [loopR_inr s2]; rfl
   | false => rw [c3] at s2; rw [loopR_inr s2]; simp
end Go.E
/- Plain Lean: a road that is ready is so no more when one thing is otherwise (law FlankOne). No condition. -/
namespace Go.E
open Go
section
variable {p : Plan} {n : Net} {r : Road}
structure NOK (p : Plan) (st : List Step) (nd : List Need) : Prop where
 ok : ∀ m ∈ nd, m.elem ∈ st.map (·.elem) ∧ kindP p m.elem = 2 ∧ (m.pos = 1 ∨ m.pos = 2)
 nd : nd.Pairwise (fun a b => a.elem ≠ b.elem)
theorem road_NOK {s : Int} (h : r ∈ ofF p s) : NOK p r.steps r.needs := by
 obtain ⟨sg, nd, l, h1, h2, h3, h4, h5, h6, h7⟩ := isF_parts (ofF_road h).1
 have := stepsF_needs (by simp) (by simp) h4
 rw [h7]
 exact ⟨fun m hm => by simpa using this.1 m hm, this.2.1⟩
theorem steps_kind {s : Int} (h : r ∈ ofF p s) (st : Step) (hst : st ∈ r.steps) : kindP p st.elem ≠ 0 := fun e => by
 have := (ofF_ok h).1 st hst
 unfold LieS at this
 omega
theorem both_ok {st : List Step} {nd g : List Need} (h1 : NOK p st nd) (h2 : GOK p st g) : (∀ m ∈ nd ++ g, 0 ≤ m.elem ∧ m.elem < p.elems.length ∧ (m.pos = 1 ∨ m.pos = 2)) ∧ (nd ++ g).Pairwise (fun a b => a.elem ≠ b.elem) := by
 refine ⟨fun m hm => ?_, ?_⟩
 ·have hk : kindP p m.elem = 2 ∧ (m.pos = 1 ∨ m.pos = 2) := by
   rcases List.mem_append.1 hm with hm | hm
   ·exact (h1.ok m hm).2
   ·exact (h2.ok m hm).2
  have := kind_range (p := p) (e := m.elem) (by rw [hk.1]; decide)
  exact ⟨this.1, this.2, hk.2⟩
 ·rw [List.pairwise_append]
  refine ⟨h1.nd, h2.nd, fun a ha b hb e => ?_⟩
  have := (h1.ok a ha).1
  rw [e] at this
  exact (h2.ok b hb).1 this
theorem readyF_split (bad : Need → Bool) (occ : List Bool) : readyF bad r occ = true ↔ (∀ m ∈ r.needs ++ r.guards, bad m = false) ∧ ∀ e ∈ r.steps.map (·.elem) ++ r.zone, takenF occ e = false := by
 unfold readyF
 simp only [Bool.and_eq_true, Bool.not_eq_true', List.any_eq_false, List.mem_append, List.mem_map]
 constructor
 ·rintro ⟨⟨⟨a, b⟩, c⟩, d⟩
  refine ⟨fun m hm => ?_, fun e he => ?_⟩
  ·rcases hm with hm | hm
   ·simpa using a m hm
   ·simpa using b m hm
  ·rcases he with ⟨s, hs, rfl⟩ | he
   ·simpa using c s hs
   ·simpa using d e he
 ·rintro ⟨a, b⟩
  refine ⟨⟨⟨fun m hm => ?_, fun m hm => ?_⟩, fun s hs => ?_⟩, fun e he => ?_⟩
  ·simpa using a m (.inl hm)
  ·simpa using a m (.inr hm)
  ·simpa using b s.elem (.inl ⟨s, hs, rfl⟩)
  ·simpa using b e (.inr he)
theorem modI_nat {n : Int} {k : Nat} (h0 : 0 ≤ n) (hk : 0 < k) : ∃ j : Nat, j < k ∧ modI n (k : Int) = some (j : Int) := by
 obtain ⟨m, rfl⟩ := Int.eq_ofNat_of_zero_le h0
 refine ⟨m % k, Nat.mod_lt _ hk, ?_⟩
 unfold modI
 rw [if_neg (by omega)]
 rfl
theorem idx_set {α : Type} {l : List α} {e : Int} {v : α} (h0 : 0 ≤ e) (h1 : e < (l.length : Int)) : idx (setI l e v) e = some v := by
 obtain ⟨k, rfl⟩ := Int.eq_ofNat_of_zero_le h0
 show (l.set (k : Int).toNat v)[k]? = _
 rw [Int.toNat_natCast, List.getElem?_set_self (by omega)]
theorem taken_rep (k : Nat) (e : Int) : takenF (List.replicate k false) e = false := by
 unfold takenF
 cases hi : idx (List.replicate k false) e with
 | none => rfl
 | some b =>
  obtain ⟨_, _, h⟩ := idx_some hi
  have := List.mem_of_getElem? h
  rw [List.mem_replicate] at this
  rw [this.2]; rfl
theorem FlankOne_true (p : Plan) (k w : Int) (hk : (Lit.int .u8 k).wf = true) (hw : (Lit.int .u8 w).wf = true) : g_L9_FlankOne p k w = some true := by
 unfold g_L9_FlankOne
 simp only [known9, Option.bind_some, Bool.not_true, cond_false]
 obtain ⟨b, h1, h2⟩ := fine_total p
 simp only [h1, Option.bind_some]
 cases b with
 | false => rfl
 | true =>
  have hv := h2 rfl
  have hf := hv.few
  obtain ⟨o, h3, h4⟩ := made_total p
  obtain ⟨n, rfl, hn⟩ := h4 h1
  obtain ⟨r, b, h5, h6⟩ := L8_Road_eq hv hk
  simp only [Bool.not_true, cond_false, Option.bind_some, h3, h5, optM]
  cases b with
  | false => rfl
  | true =>
   obtain ⟨s, hs⟩ := h6 rfl
   have hl := ofF_steps hs
   have hl1 : 1 ≤ r.steps.length := (ofF_road hs).2.2.2.2.2.2.2.1
   have hnd : r.needs.length ≤ 12 := (ofF_road hs).2.2.2.2.2.2.2.2
   obtain ⟨R, e1, e2⟩ := Flank_eq hv hn hl (show r.needs.length ≤ 1000 by omega)
   obtain ⟨g, z, h, b, e3, e4, e5, e6, e7, e8⟩ := flank_total hv hn hl (show r.needs.length ≤ 1000 by omega)
   rw [e2] at e3
   cases e3
   have hz := e4.len
   have hw8 : 0 ≤ w ∧ w ≤ 255 := ⟨(u8w hw).1, (u8w hw).2.1⟩
   have hww : wi64 w = w := by rw [wi64_id] <;> omega
   have hE : p.elems.length ≤ 1000 := by have := hf.elems; omega
   obtain ⟨hok, hpw⟩ := both_ok (road_NOK hs) e5
   obtain ⟨base, e9, hb1, hb2⟩ := Lying_ok p (r.needs ++ g) [] hE (by simp; omega)
   have hlen : ((r.needs ++ g).foldl lieStep base).length = p.elems.length := by rw [lieFold_len, hb1]
   have hlie : ∀ m ∈ r.needs ++ g, idx ((r.needs ++ g).foldl lieStep base) m.elem = some m.pos := fun m hm => lieFold_mem _ _ hpw m hm (hok m hm).1 (by rw [hb1]; exact (hok m hm).2.1)
   generalize hP : (r.needs ++ g).foldl lieStep base = P at hlen hlie e9
   have hmk : mkI (p.elems.length : Int) false = some (List.replicate p.elems.length false) := by
    unfold mkI
    rw [if_pos ⟨by omega, by omega⟩]; rfl
   have hR : ∀ (pos : List Int) (occ : List Bool), g_flank_Ready (⟨r.frm, r.to, r.fin, r.steps, r.needs, g, z, h, b⟩ : Road) pos occ = some (readyF (badN pos) (⟨r.frm, r.to, r.fin, r.steps, r.needs, g, z, h, b⟩ : Road) occ) := fun pos occ => flank_Ready_eq _ pos occ (show r.needs.length < 1000000 by omega) (show g.length < 1000000 by omega) (show r.steps.length < 1000000 by omega) (show z.length < 1000000 by omega)
   have good : ∀ m ∈ r.needs ++ g, badN P m = false := fun m hm => by
    have := (hok m hm).2.2
    have h0 : m.pos ≠ 0 := by omega
    unfold badN
    rw [hlie m hm]
    simp [h0]
   have t1 : readyF (badN P) (⟨r.frm, r.to, r.fin, r.steps, r.needs, g, z, h, b⟩ : Road) (List.replicate p.elems.length false) = true := (readyF_split _ _).2 ⟨good, fun e _ => taken_rep _ e⟩
   simp only [Bool.not_true, cond_false, e1, Option.bind_some, appI_ok (show ([] : List Need).length + r.needs.length ≤ 4294967296 by simp; omega), List.nil_append, appI_ok (show r.needs.length + g.length ≤ 4294967296 by omega), e9, hmk, hR, t1]
   have hE2 := Elems2_eq (⟨r.frm, r.to, r.fin, r.steps, r.needs, g, z, h, b⟩ : Road) (show r.steps.length < 1000000 by omega)
   simp only [hE2, Option.bind_some, appI_ok (show (r.steps.map (·.elem)).length + z.length ≤ 4294967296 by simp; omega), hww]
   obtain ⟨j, hj, hj2⟩ := modI_nat (k := (r.steps.map (·.elem) ++ z).length) hw8.1 (by simp; omega)
   rw [hj2]
   have hx : (r.steps.map (·.elem) ++ z)[j]? = some (r.steps.map (·.elem) ++ z)[j] := List.getElem?_eq_getElem hj
   generalize (r.steps.map (·.elem) ++ z)[j] = x at hx
   have hxm := List.mem_of_getElem? hx
   have hxr : 0 ≤ x ∧ x < p.elems.length := by
    refine kind_range ?_
    rcases List.mem_append.1 hxm with hm | hm
    ·obtain ⟨st, hst, rfl⟩ := List.mem_map.1 hm
     exact steps_kind hs st hst
    ·exact e4.rng x hm
   obtain ⟨y, hy⟩ := idx_of (l := List.replicate p.elems.length false) (n := x) hxr.1 (by simpa using hxr.2)
   have t2 : readyF (badN P) (⟨r.frm, r.to, r.fin, r.steps, r.needs, g, z, h, b⟩ : Road) (setI (List.replicate p.elems.length false) x true) = false := by
    cases hc : readyF (badN P) (⟨r.frm, r.to, r.fin, r.steps, r.needs, g, z, h, b⟩ : Road) (setI (List.replicate p.elems.length false) x true) with
    | false => rfl
    | true =>
     have := ((readyF_split _ _).1 hc).2 x hxm
     unfold takenF at this
     rw [idx_set hxr.1 (by simpa using hxr.2)] at this
     cases this
   simp only [Option.bind_some, idx_nat, hx, hy, t2, cond_false]
   by_cases c0 : (r.needs ++ g).length = 0
   ·simp [c0]
   ·have cb : (((r.needs ++ g).length : Int) == 0) = false := by simp only [beq_eq_false_iff_ne]; omega
    simp only [cb, cond_false]
    obtain ⟨i, hi, hi2⟩ := modI_nat (k := (r.needs ++ g).length) hw8.1 (by omega)
    rw [hi2]
    have hm : (r.needs ++ g)[i]? = some (r.needs ++ g)[i] := List.getElem?_eq_getElem hi
    generalize (r.needs ++ g)[i] = m at hm
    have hmm := List.mem_of_getElem? hm
    have hmo := hok m hmm
    have t3 : readyF (badN (setI P m.elem (wi64 (3 - m.pos)))) (⟨r.frm, r.to, r.fin, r.steps, r.needs, g, z, h, b⟩ : Road) [] = false := by
     cases hc : readyF (badN (setI P m.elem (wi64 (3 - m.pos)))) (⟨r.frm, r.to, r.fin, r.steps, r.needs, g, z, h, b⟩ : Road) [] with
     | false => rfl
     | true =>
      have := ((readyF_split _ _).1 hc).1 m hmm
      unfold badN at this
      rw [idx_set hmo.1 (by rw [hlen]; exact hmo.2.1)] at this
      have hw3 : wi64 (3 - m.pos) = 3 - m.pos := by rw [wi64_id] <;> omega
      rw [hw3] at this
      have hne : (3 : Int) - m.pos ≠ m.pos := by omega
      simp [hne] at this
    simp only [Option.bind_some, idx_nat, hm, hlie m hmm, t3, Bool.not_false]
end
end Go.E
