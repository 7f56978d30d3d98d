/- Plain Lean: what a net says of lines. No condition. -/
import Derived.KernelRfl
import Derived.Test.YtlmjaeojocjhkaaGreatJ5
set_option linter.unusedVariables false
set_option linter.unusedSimpArgs false
namespace Go.E
open Go
def W6 (ls : List Cu) (m : List (Int × Bi)) : Prop := ∀ e, (Ah m e = none /\ ∀ l ∈ ls, e ∉ l.elems) \/ ∃ a l, Ah m e = some a /\ AX ls a.a0 = some l /\ e ∈ l.elems
def UX (p : AK) (n : Ay) : Prop := W6 p.lines n.line
theorem W7 (p y15 : AK) (hf : ED p) (s58 : Int × List (AI × AI)) (s140 : Int × List (AI × Int)) : ∃ a b, AT (Ca p y15 s58 s140) (0, [], []) = some (some ⟨y15, s58.2, s140.2, a, b⟩, 0) /\ W6 p.lines a := by
 have q4 := hf.lines
 obtain ⟨r, hr, a, b, rfl, hL⟩ : ∃ r, AT (Ca p y15 s58 s140) (0, [], []) = some r /\ ∃ a b, r = (some ⟨y15, s58.2, s140.2, a, b⟩, 0) /\ W6 p.lines a := by
  refine Bw (l := p.lines) (fun i c => ∀ e, (Ah c.1 e = none /\ ∀ l ∈ p.lines.take i, e ∉ l.elems) \/ ∃ a l, Ah c.1 e = some a /\ AX p.lines a.a0 = some l /\ e ∈ l.elems) (fun c hc => ⟨_, by simp only [Ca, B4, cond_false], c.1, c.2, rfl, fun e => by
   have := hc e; rw [List.take_length] at this; exact this⟩) (fun i l c h hc => ?_) (c := (([], []) : List (Int × Bi) × List (Int × Int))) (fun e => .inl ⟨rfl, by simp⟩)
  have := BZ h
  have hal := (hf.line i l h).1
  obtain ⟨t, ht⟩ : ∃ t : Int, ((bif decide (1 < (l.elems.length : Int)) then (AX l.elems 0).bind fun y1186 => ((bif (Ah s58.2 (⟨y1186, 0⟩ : AI)).isSome then (AX l.elems 1).bind fun y1195 => some ((((Ah s58.2 (⟨y1186, 0⟩ : AI)).getD (⟨0, 0⟩ : AI)).elem) == y1195) else some false : Option (Bool))).bind fun (t1192 : Bool) => bif t1192 then some 1 else some 0 else some 0 : Option (Int))) = some t := by
   match hl : l.elems with
   | [] => exact ⟨0, by simp⟩
   | [a] => exact ⟨0, by simp⟩
   | a :: b :: r =>
    have hd : decide (1 < ((a :: b :: r).length : Int)) = true := by simp; omega
    have i0 : AX (a :: b :: r) 0 = some a := rfl
    have i1 : AX (a :: b :: r) 1 = some b := rfl
    simp only [hd, cond_true, i0, i1, Option.bind_some]
    cases (Ah s58.2 (⟨a, 0⟩ : AI)).isSome with
    | false => exact ⟨0, rfl⟩
    | true =>
     simp only [cond_true, Option.bind_some]
     cases ((Ah s58.2 (⟨a, 0⟩ : AI)).getD (⟨0, 0⟩ : AI)).elem == b with
     | false => exact ⟨0, rfl⟩
     | true => exact ⟨1, rfl⟩
  refine .inr ?_
  simp only [Ca, Bg h, cond_true, Am, h, Option.bind_some, ht]
  obtain ⟨r, hr, c', rfl, hc'⟩ : ∃ r, AT (DT s58 ((i : Int), c) l) (t, 0, c.1, c.2) = some r /\ ∃ c' : List (Int × Bi) × List (Int × Int), r = .inl (((i + 1 : Nat) : Int), c') /\
    ∀ e, Ah c'.1 e = (if e ∈ l.elems then Ah c'.1 e else Ah c.1 e) /\ (e ∈ l.elems -> ∃ a, Ah c'.1 e = some a /\ a.a0 = (i : Int)) := by
   refine FC (fun k s => s.2.1 = (k : Int) /\ k <= l.elems.length /\ ∀ e, Ah s.2.2.1 e = (if e ∈ l.elems.take k then Ah s.2.2.1 e else Ah c.1 e) /\ (e ∈ l.elems.take k -> ∃ a, Ah s.2.2.1 e = some a /\ a.a0 = (i : Int))) l.elems.length ?_ ⟨rfl, Nat.zero_le _, fun e => ⟨by simp, by simp⟩⟩
   rintro k ⟨x, j, d1, d2⟩ ⟨hj, hk, hd⟩
   simp only at hj hd
   subst hj
   by_cases he : k = l.elems.length
   .subst he
    rw [List.take_length] at hd
    exact .inl ⟨.inl (((i + 1 : Nat) : Int), d1, d2), by simp only [DT, B4, cond_false, Ae (show i < 1000000000 by omega)], (d1, d2), rfl, hd⟩
   have ha : l.elems[k]? = some (l.elems[k]'(by omega)) := List.getElem?_eq_getElem _
   refine .inr ⟨by omega, (((Ah s58.2 (⟨l.elems[k]'(by omega), AO (1 - x)⟩ : AI)).getD (⟨0, 0⟩ : AI)).fin, ((k + 1 : Nat) : Int), A2 (l.elems[k]'(by omega)) (⟨(i : Int), (k : Int)⟩ : Bi) d1, A2 (l.elems[k]'(by omega)) x d2), by simp only [DT, Bg ha, cond_true, Am, ha, Option.bind_some, Ae (show k < 1000000000 by omega)], rfl, by omega, fun e => ?_⟩
   generalize l.elems[k]'(by omega) = y at ha
   dsimp only
   rw [List.take_add_one, ha, En]
   by_cases hy : e = y
   .subst hy
    simp
   have hm : e ∈ l.elems.take k ++ (some y).toList ↔ e ∈ l.elems.take k := by simp [hy]
   rw [if_neg hy]
   simp only [hm]
   exact hd e
  refine ⟨c', hr, fun e => ?_⟩
  obtain ⟨g1, g2⟩ := hc' e
  by_cases hm : e ∈ l.elems
  .obtain ⟨a, h1, h2⟩ := g2 hm
   exact .inr ⟨a, l, h1, by rw [h2, Am]; exact h, hm⟩
  rw [if_neg hm] at g1
  rcases hc e with ⟨h1, h2⟩ | ⟨a, l', h1, h2, h3⟩
  .refine .inl ⟨by rw [g1]; exact h1, fun q hq => ?_⟩
   rw [PA h] at hq
   rcases List.mem_append.1 hq with hq | hq
   .exact h2 q hq
   rw [List.mem_singleton.1 hq]; exact hm
  exact .inr ⟨a, l', by rw [g1]; exact h1, h2, h3⟩
 exact ⟨a, b, hr, hL⟩
theorem Z5 (p : AK) (hv : B3 p) : ∃ n, Cj p = some (some n, 0) /\ UX p n := by
 have q2 := hv.few.joins; have q3 := hv.few.signals
 unfold Cj
 simp only [OA p hv, Option.bind_some, bne_self_eq_false, cond_false, Mx p hv.few]
 have l2 : ∀ s58 : Int × List (AI × AI), ∃ r, AT (DU p p s58) (0, []) = some r /\ ∃ n, r = (some n, 0) /\ UX p n := by
  intro s58
  refine Bw (l := p.signals) (fun i c => True) (fun c _ => ?_) (fun i s c h _ => ?_) (c := []) trivial
  .obtain ⟨a, b, hr, hL⟩ := W7 p p hv.few s58 ((p.signals.length : Int), c)
   exact ⟨_, by simp only [DU, B4, cond_false, hr]; rfl, ⟨p, s58.2, c, a, b⟩, rfl, hL⟩
  have := BZ h
  exact .inr ⟨A2 s.at_ (i : Int) c, by simp only [DU, Bg h, cond_true, Am, h, Option.bind_some, Ae (show i < 1000000000 by omega)], trivial⟩
 obtain ⟨r, hr, n, rfl, hn⟩ : ∃ r, AT (DW p p) (0, []) = some r /\ ∃ n, r = (some n, 0) /\ UX p n := by
  refine Bw (l := p.joins) (fun i c => True) (fun c _ => ?_) (fun i j c h _ => ?_) (c := []) trivial
  .obtain ⟨r, hr, h⟩ := l2 ((p.joins.length : Int), c)
   exact ⟨r, by simp only [DW, B4, cond_false, hr]; rfl, h⟩
  have := BZ h
  exact .inr ⟨A2 j.b j.a (A2 j.a j.b c), by simp only [DW, Bg h, cond_true, Am, h, Option.bind_some, Ae (show i < 1000000000 by omega)], trivial⟩
 exact ⟨n, hr, hn⟩
theorem X6 {p : AK} {n : Ay} (hv : B3 p) (hN : Cj p = some (some n, 0)) : UX p n := by
 obtain ⟨m, h1, h2⟩ := Z5 p hv
 rw [hN] at h1
 cases h1
 exact h2
end Go.E
/- Plain Lean: what a leg wants free, as the document says it. No condition. -/
namespace Go.E
open Go
structure Z6 (p : AK) (l : List Aj) : Prop where
 steps : ∀ r ∈ l, ∀ s ∈ r.steps, 0 <= s.elem /\ s.elem < 40
 zone : ∀ r ∈ l, ∀ e ∈ r.zone, 0 <= e /\ e < 40
section
variable {p : AK} {n : Ay}
end
end Go.E
/- Plain Lean: what a leg wants free, and what a run claims: the program beside the document. No condition. -/
namespace Go.E
open Go
def JW (m : List (Int × Bool)) : List Int := m.map (·.1)
theorem Sd (e : Int) : ∀ m : List (Int × Bool), (JW m).Nodup -> (JW (A2 e true m)).Nodup /\ ∀ x, x ∈ JW (A2 e true m) ↔ x ∈ JW m \/ x = e
 | [], _ => by simp [A2, JW]
 | q :: m, h => by
  unfold JW at h
  rw [List.map_cons, List.nodup_cons] at h
  obtain ⟨h1, h2⟩ := Sd e m h.2
  have hu : A2 e true (q :: m) = if (e == q.1) = true then (q.1, true) :: m else q :: A2 e true m := rfl
  by_cases c : e = q.1
  .have : A2 e true (q :: m) = (q.1, true) :: m := by rw [hu, if_pos (by rw [c]; exact beq_self_eq_true _)]
   rw [this]
   unfold JW
   rw [List.map_cons]
   refine ⟨List.nodup_cons.2 h, fun x => ?_⟩
   rw [List.map_cons, c]
   constructor
   .exact .inl
   rintro (h | rfl)
   .exact h
   exact List.mem_cons_self
  have : A2 e true (q :: m) = q :: A2 e true m := by rw [hu, if_neg (fun hh => c (beq_iff_eq.1 hh))]
  rw [this]
  unfold JW at h1 h2 ⊢
  rw [List.map_cons]
  refine ⟨List.nodup_cons.2 ⟨fun hm => ?_, h1⟩, fun x => ?_⟩
  .rcases (h2 q.1).1 hm with hm | hm
   .exact h.1 hm
   exact c hm.symm
  rw [List.map_cons, List.mem_cons, List.mem_cons, h2]
  constructor
  .rintro (h | h | h)
   .exact .inl (.inl h)
   .exact .inl (.inr h)
   exact .inr h
  rintro ((h | h) | h)
  .exact .inl h
  .exact .inr (.inl h)
  exact .inr (.inr h)
structure Pj (m : List (Int × Bool)) (S : Int -> Prop) : Prop where
 nd : (JW m).Nodup
 mem : ∀ x, x ∈ JW m ↔ S x
theorem Pj.put {m : List (Int × Bool)} {S : Int -> Prop} (h : Pj m S) (e : Int) : Pj (A2 e true m) fun x => S x \/ x = e := by
 obtain ⟨h1, h2⟩ := Sd e m h.nd
 exact ⟨h1, fun x => by rw [h2, h.mem]⟩
theorem Pj.ext {m : List (Int × Bool)} {S T : Int -> Prop} (h : Pj m S) (e : ∀ x, S x ↔ T x) : Pj m T := ⟨h.nd, fun x => by rw [h.mem, e]⟩
section
variable {p : AK} {n : Ay}
end
end Go.E
/- The example that the laws of timetables AJ at, reckoned by the kernel. No condition. -/
namespace Go.E
open Go Go.Proofs
set_option maxRecDepth 100000
theorem Z0 : JU = some true := by kernel_rfl
end Go.E
/- Plain Lean: the laws WayStands, WayRoads, WayChecks answer true, for every argument. No condition. -/
namespace Go.E
open Go
structure AB1 (p : AK) (d : Ak) (n : Ay) (c : C6) : Prop where
 hv : B3 p
 hN : Cj p = some (some n, 0)
 hn : Bj p n
 hL : UX p n
 plan : c.plan = p
 built : Is p n c.roads
 hd : O5 d
section
variable {p : AK} {n : Ay}
theorem VS (hv : B3 p) (hn : Bj p n) {l : List Aj} (hb : Is p n l) : V1 l /\ Z6 p l := by
 have key : ∀ q ∈ l, ∃ (s : Nat) (r : Aj), r ∈ HJ p (s : Int) /\ R7 p r q := fun q hq => by
  obtain ⟨s, r, -, h2, -, h4, -⟩ := hb.road hv hn hq
  exact ⟨s, r, h2, h4⟩
 have hne := hv.ne
 refine ⟨⟨hb.len, fun q hq => ?_, fun q hq => ?_⟩, ⟨fun q hq t ht => ?_, fun q hq e he => ?_⟩⟩
 .obtain ⟨s, r, h2, f⟩ := key q hq
  obtain ⟨_, _, _, _, a1, a2, _⟩ := Gs (DE h2).1
  rw [f.steps]; exact ⟨a1, a2⟩
 .obtain ⟨s, r, h2, f⟩ := key q hq
  have := f.zone.len
  omega
 .obtain ⟨s, r, h2, f⟩ := key q hq
  rw [f.steps] at ht
  have := Nh (W8 h2 t ht)
  omega
 obtain ⟨s, r, h2, f⟩ := key q hq
 have := Nh (f.zone.rng e he)
 omega
theorem X7 (hv : B3 p) (hn : Bj p n) {l : List Aj} (hb : Is p n l) {q : Aj} (hq : q ∈ l) : QA p q = true := by
 obtain ⟨s, r, -, h2, rfl, -, -⟩ := hb.road hv hn hq
 exact Y7 hv hn h2
theorem Z7 (p : AK) : ∃ c b, F2 p = some (c, b) /\ (b = true -> ∃ n, B3 p /\ Cj p = some (some n, 0) /\ Bj p n /\ c.plan = p /\ Is p n c.roads) := by
 obtain ⟨b, h1, h2⟩ := RU p
 unfold F2
 simp only [h1, Option.bind_some]
 cases b with
 | false => exact ⟨_, false, rfl, by simp⟩
 | true =>
  have hv := h2 rfl
  obtain ⟨n, hN, hn⟩ := X1 p hv
  obtain ⟨c, e, e1, e2⟩ := Y8 hv hN hn
  simp only [Bool.not_true, cond_false, e1, Option.bind_some]
  refine ⟨c, e == 0, rfl, fun h => ?_⟩
  have he : e = 0 := beq_iff_eq.1 h
  rcases e2 with ⟨_, g1, g2⟩ | h3
  .exact ⟨n, hv, hN, hn, g1, g2⟩
  omega
theorem Z8 (p : AK) (d : Ak) : ∃ c o b, Hg p d = some (c, o, b) /\ (b = true -> ∃ n, o = some n /\ AB1 p d n c /\ UW p d) := by
 unfold Hg
 obtain ⟨b0, f1, f2⟩ := VN d
 simp only [f1, Option.bind_some]
 cases b0 with
 | false => exact ⟨_, none, false, rfl, by simp⟩
 | true =>
  have hd := f2 rfl
  obtain ⟨b1, h1, h2⟩ := RU p
  simp only [Bool.not_true, cond_false, h1, Option.bind_some]
  cases b1 with
  | false => exact ⟨_, none, false, rfl, by simp⟩
  | true =>
   have hv := h2 rfl
   simp only [Bool.not_true, cond_false, UV p hv.few hd, Option.bind_some]
   by_cases c0 : Mz p d = 0
   .obtain ⟨c, b, e1, e2⟩ := Z7 p
    obtain ⟨n, hN, hn⟩ := X1 p hv
    have hm : H6 p = some (some n) := by
     unfold H6
     simp only [h1, hN, Option.bind_some, Bool.not_true, cond_false, I3, bne_self_eq_false]
    simp only [c0, bne_self_eq_false, cond_false, e1, hm, Option.bind_some, I3]
    refine ⟨c, some n, b, by cases b <;> rfl, fun hb => ?_⟩
    obtain ⟨m, g1, g2, g3, g4, g5⟩ := e2 hb
    rw [hN] at g2
    cases g2
    exact ⟨n, rfl, ⟨hv, hN, hn, X6 hv hN, g4, g5, hd⟩, X5 c0⟩
   have : (Mz p d != 0) = true := bne_iff_ne.2 c0
   rw [this]
   exact ⟨_, none, false, rfl, by simp⟩
end
end Go.E
/- Plain Lean: the laws WayLeads, WayRest, WayLonger answer true, for every argument. No condition. -/
namespace Go.E
open Go
section
variable {p : AK} {n : Ay}
def QV (d : Ak) (run leg : Int) : Option (DG × Ch) := (AX d.runs run).bind fun r => (AX r.legs leg).map fun x => (r, x)
theorem X8 (d : Ak) (b : Bool) (run leg : Int) : ((bif (!b) then some true else bif decide (run < 0) then some true else bif decide ((d.runs.length : Int) <= run) then some true else bif decide (leg < 0) then some true else (AX d.runs run).bind fun y64 => some (decide ((y64.legs.length : Int) <= leg)) : Option (Bool))) = some (!(b && (QV d run leg).isSome)) := by
 cases b with
 | false => rfl
 | true =>
  simp only [Bool.not_true, cond_false, Bool.true_and]
  unfold QV
  by_cases h1 : run < 0
  .simp [h1, CK (.inl h1)]
  by_cases h2 : (d.runs.length : Int) <= run
  .simp [h1, h2, CK (.inr h2)]
  obtain ⟨r, hr⟩ := Gp (l := d.runs) (n := run) (by omega) (by omega)
  by_cases h3 : leg < 0
  .simp [h1, h2, h3, hr, CK (.inl h3)]
  by_cases h4 : (r.legs.length : Int) <= leg
  .simp [h1, h2, h3, hr, h4, CK (.inr h4)]
  obtain ⟨x, hx⟩ := Gp (l := r.legs) (n := leg) (by omega) (by omega)
  simp [h1, h2, h3, hr, h4, hx]
theorem PC {d : Ak} {run leg : Int} {r : DG} {x : Ch} (h : QV d run leg = some (r, x)) : AX d.runs run = some r /\ AX r.legs leg = some x /\ Ix d run leg = some r /\ Ix d run (leg + 1) = some r /\ 0 <= leg /\ leg < r.legs.length := by
 unfold QV at h
 obtain ⟨q, h1, h2⟩ := Option.bind_eq_some_iff.1 h
 obtain ⟨y, h3, h4⟩ := Option.map_eq_some_iff.1 h2
 cases h4
 have := Mt h3
 refine ⟨h1, h3, ?_, ?_, this.1, this.2⟩
 .unfold Ix; rw [h1]; simp only [Option.bind_some]; rw [if_pos ⟨this.1, by omega⟩]
 unfold Ix; rw [h1]; simp only [Option.bind_some]; rw [if_pos ⟨by omega, by omega⟩]
theorem W9 {d : Ak} {run leg : Int} {r : DG} {x : Ch} (h : QV d run leg = some (r, x)) : FD p d run (leg + 1) = ((RQ p x).map (·.elem)).getD (-1) := by
 obtain ⟨h1, h2, -, h4, h5, -⟩ := PC h
 unfold FD TQ
 rw [h4]
 simp only [Option.bind_some]
 unfold Io
 rw [if_neg (by omega), show leg + 1 - 1 = leg by omega, h2]
 rfl
theorem XA {d : Ak} {run leg : Int} (h : 0 <= FV p d run leg) : ∃ at_, Dq p (FV p d run leg) = some at_ /\ at_.elem = FD p d run leg := by
 obtain ⟨r, x, q, -, -, -, -, e, es⟩ := Sc h
 have hgo : ∃ y : AI, y.elem = q.elem /\ FV p d run leg = A7 p y := by
  rw [e] at h ⊢
  unfold X2 at h ⊢
  split at h
  .omega
  rename_i c1
  rw [if_neg c1]
  split at h
  .rename_i c2
   rw [if_pos c2]
   split at h
   .rename_i c3
    rw [if_pos c3]
    exact ⟨⟨q.elem, 1 - q.fin⟩, rfl, rfl⟩
   omega
  rename_i c2
  rw [if_neg c2]
  exact ⟨q, rfl, rfl⟩
 obtain ⟨y, hy, hr⟩ := hgo
 rw [hr] at h ⊢
 obtain ⟨i, hi⟩ := Int.eq_ofNat_of_zero_le h
 rw [hi]
 obtain ⟨s, h1, h2⟩ := UY hi
 refine ⟨s.at_, ?_, by rw [h2, hy, es]⟩
 unfold Dq
 rw [Am, h1]
 rfl
theorem X9 (hv : B3 p) {d : Ak} (hk : UW p d) {run leg : Int} {r : DG} {x : Ch} (h : QV d run leg = some (r, x)) {a : Aj} (ha : QA p a = true) (he : Pg a x = true) (hf : a.fin ≠ 2) : Hv a = FD p d run (leg + 1) := by
 obtain ⟨h1, h2, -, -, -, -⟩ := PC h
 rw [W9 h]
 unfold Pg at he
 simp only [Bool.and_eq_true, beq_iff_eq] at he
 obtain ⟨e1, e2⟩ := he
 obtain ⟨sg, nd, l, -, -, -, -, g5, g6, -⟩ := Gs ha
 have hl : Hv a = l.elem := by unfold Hv; rw [g5]; rfl
 have hleads := hk.leads _ r (Ip h1).1 x (List.mem_of_getElem? (Ip h2).1)
 unfold PB at hleads
 unfold RQ
 by_cases c1 : x.fin = 1
 .rw [if_pos c1] at e2 ⊢
  have e2 : a.to = x.to := beq_iff_eq.1 e2
  unfold Lm at g6
  split at g6
  .simp only [decide_eq_true_eq] at g6; omega
  split at g6
  .rename_i c3
   simp only [decide_eq_true_eq] at g6
   rw [<- e2, g6.2]
   obtain ⟨i, hi⟩ := Int.eq_ofNat_of_zero_le c3
   rw [hi]
   obtain ⟨s, k1, k2⟩ := UY hi
   unfold Dq
   rw [Am, k1]
   simp only [Option.map_some, Option.getD_some, k2, hl]
  simp only [Bool.and_eq_true, decide_eq_true_eq] at g6; omega
 rw [if_neg c1] at e2 hleads ⊢
 have e2 : Hv a = x.to := beq_iff_eq.1 e2
 by_cases c3 : x.fin = 3
 .rw [if_pos c3]
  simp only [Option.map_some, Option.getD_some, (UN x.to).1]
  exact e2
 by_cases c2 : x.fin = 2
 .omega
 rw [if_neg c2, if_neg c3] at hleads
 cases hleads
theorem S8 (p : AK) (d : Ak) (run leg : Int) : G8 p d run leg = some true := by
 unfold G8
 obtain ⟨c, o, b, h1, h2⟩ := Z8 p d
 simp only [Z0, Option.bind_some, Bool.not_true, cond_false, h1, X8]
 cases b with
 | false => cases o <;> rfl
 | true =>
  obtain ⟨n, rfl, a, hk⟩ := h2 rfl
  obtain ⟨hl, he⟩ := VS a.hv a.hn a.built
  simp only [I3, Bool.true_and]
  cases hq : QV d run leg with
  | none => rfl
  | some rx =>
   obtain ⟨r, x⟩ := rx
   obtain ⟨g1, g2, -, -, g5, g6⟩ := PC hq
   have hL := (a.hd.legs _ r (Ip g1).1).1
   simp only [Option.isSome_some, Bool.not_true, cond_false, B8 (n := leg + 1) (by omega) (by omega), OB a.hn a.hd, UR a.hv a.hn a.hd hk.ix hl, Option.bind_some]
   have r1 := W0 (p := p) (l := c.roads) (d := d) (run := run) (leg := leg)
   have r2 := hl.len
   refine Z9 (l := LH p c.roads d run leg) (by simp [Et]) (fun i k hik => ?_)
   have hi := BZ hik
   obtain ⟨hf, j, q, x', s, rfl, hj, hle, hg⟩ := Wz (List.mem_of_getElem? hik)
   have hm := List.mem_of_getElem? hj
   obtain ⟨a1, a2⟩ := hl.steps q hm
   have a3 := hl.zone q hm
   obtain ⟨y, hy, hyl⟩ := O7 a1 (by omega)
   have el : y.elem = Hv q := by unfold Hv; rw [hyl]; rfl
   obtain ⟨at_, hat, hat2⟩ := XA hf
   unfold TR at hle
   rw [g1] at hle
   simp only [Option.bind_some, g2] at hle
   obtain ⟨s', hs', hx'⟩ := Option.map_eq_some_iff.1 hle
   cases hx'
   have hjl := BZ hj
   unfold RR at hg
   simp only [Bool.and_eq_true, beq_iff_eq, Bool.not_eq_true'] at hg
   obtain ⟨w1, w2, w3, w4, w5⟩ := hg
   have hin : G7 q.zone (FD p d run leg) = some false := by rw [ABY q.zone (by omega), w4]
   simp only [Et, Bg hik, cond_true, Am, hik, Option.bind_some, show ¬ ((j : Nat) : Int) < 0 by omega, decide_false, cond_false, show ¬ (c.roads.length : Int) <= ((j : Nat) : Int) by omega, hj, AAs, w1, hat, Option.isSome_some, Option.getD_some, Bool.not_true, hat2, bne_self_eq_false, w3, hin, hy, el, g1, hs', VP, w5, Ae (show i < 1000000000 by omega)]
   by_cases f2 : q.fin = 2
   .simp [f2]
   have := X9 a.hv hk hq (X7 a.hv a.hn a.built hm) w2 f2
   have hb : (q.fin != 2) = true := bne_iff_ne.2 f2
   simp [hb, this]
end
end Go.E
