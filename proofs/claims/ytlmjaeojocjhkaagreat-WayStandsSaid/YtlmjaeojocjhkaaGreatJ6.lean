/- Plain Lean: what a net says of lines. No condition. -/
import Derived.KernelRfl
import Derived.Test.YtlmjaeojocjhkaaGreatJ5
set_option linter.unusedVariables false
set_option linter.unusedSimpArgs false
namespace Go.E
open Go
def Wp (ls : List Cp) (m : List (Int × Bf)) : Prop := ∀ e, (Ah m e = none /\ ∀ l ∈ ls, e ∉ l.elems) \/ ∃ a l, Ah m e = some a /\ AZ ls a.a0 = some l /\ e ∈ l.elems
def UP (p : AK) (n : Az) : Prop := Wp p.lines n.line
theorem Wq (p y15 : AK) (hf : EG p) (s58 : Int × List (AI × AI)) (s140 : Int × List (AI × Int)) : ∃ a b, AU (CY p y15 s58 s140) (0, [], []) = some (some ⟨y15, s58.2, s140.2, a, b⟩, 0) /\ Wp p.lines a := by
 have q4 := hf.lines
 obtain ⟨r, hr, a, b, rfl, hL⟩ : ∃ r, AU (CY p y15 s58 s140) (0, [], []) = some r /\ ∃ a b, r = (some ⟨y15, s58.2, s140.2, a, b⟩, 0) /\ Wp p.lines a := by
  refine By (l := p.lines) (fun i c => ∀ e, (Ah c.1 e = none /\ ∀ l ∈ p.lines.take i, e ∉ l.elems) \/ ∃ a l, Ah c.1 e = some a /\ AZ p.lines a.a0 = some l /\ e ∈ l.elems) (fun c hc => ⟨_, by simp only [CY, B3, cond_false], c.1, c.2, rfl, fun e => by
   have := hc e; rw [List.take_length] at this; exact this⟩) (fun i l c h hc => ?_) (c := (([], []) : List (Int × Bf) × List (Int × Int))) (fun e => .inl ⟨rfl, by simp⟩)
  have := Bg h
  have hal := (hf.line i l h).1
  obtain ⟨t, ht⟩ : ∃ t : Int, ((bif decide (1 < (l.elems.length : Int)) then (AZ l.elems 0).bind fun y1186 => ((bif (Ah s58.2 (⟨y1186, 0⟩ : AI)).isSome then (AZ l.elems 1).bind fun y1195 => some ((((Ah s58.2 (⟨y1186, 0⟩ : AI)).getD (⟨0, 0⟩ : AI)).elem) == y1195) else some false : Option (Bool))).bind fun (t1192 : Bool) => bif t1192 then some 1 else some 0 else some 0 : Option (Int))) = some t := by
   match hl : l.elems with
   | [] => exact ⟨0, by simp⟩
   | [a] => exact ⟨0, by simp⟩
   | a :: b :: r =>
    have hd : decide (1 < ((a :: b :: r).length : Int)) = true := by simp; omega
    have i0 : AZ (a :: b :: r) 0 = some a := rfl
    have i1 : AZ (a :: b :: r) 1 = some b := rfl
    simp only [hd, cond_true, i0, i1, Option.bind_some]
    cases (Ah s58.2 (⟨a, 0⟩ : AI)).isSome with
    | false => exact ⟨0, rfl⟩
    | true =>
     simp only [cond_true, Option.bind_some]
     cases ((Ah s58.2 (⟨a, 0⟩ : AI)).getD (⟨0, 0⟩ : AI)).elem == b with
     | false => exact ⟨0, rfl⟩
     | true => exact ⟨1, rfl⟩
  refine .inr ?_
  simp only [CY, Bl h, cond_true, Ao, h, Option.bind_some, ht]
  obtain ⟨r, hr, c', rfl, hc'⟩ : ∃ r, AU (DN s58 ((i : Int), c) l) (t, 0, c.1, c.2) = some r /\ ∃ c' : List (Int × Bf) × List (Int × Int), r = .inl (((i + 1 : Nat) : Int), c') /\
    ∀ e, Ah c'.1 e = (if e ∈ l.elems then Ah c'.1 e else Ah c.1 e) /\ (e ∈ l.elems -> ∃ a, Ah c'.1 e = some a /\ a.a0 = (i : Int)) := by
   refine E9 (fun k s => s.2.1 = (k : Int) /\ k <= l.elems.length /\ ∀ e, Ah s.2.2.1 e = (if e ∈ l.elems.take k then Ah s.2.2.1 e else Ah c.1 e) /\ (e ∈ l.elems.take k -> ∃ a, Ah s.2.2.1 e = some a /\ a.a0 = (i : Int))) l.elems.length ?_ ⟨rfl, Nat.zero_le _, fun e => ⟨by simp, by simp⟩⟩
   rintro k ⟨x, j, d1, d2⟩ ⟨hj, hk, hd⟩
   simp only at hj hd
   subst hj
   by_cases he : k = l.elems.length
   .subst he
    rw [List.take_length] at hd
    exact .inl ⟨.inl (((i + 1 : Nat) : Int), d1, d2), by simp only [DN, B3, cond_false, Ag (show i < 1000000000 by omega)], (d1, d2), rfl, hd⟩
   have ha : l.elems[k]? = some (l.elems[k]'(by omega)) := List.getElem?_eq_getElem _
   refine .inr ⟨by omega, (((Ah s58.2 (⟨l.elems[k]'(by omega), AO (1 - x)⟩ : AI)).getD (⟨0, 0⟩ : AI)).fin, ((k + 1 : Nat) : Int), A2 (l.elems[k]'(by omega)) (⟨(i : Int), (k : Int)⟩ : Bf) d1, A2 (l.elems[k]'(by omega)) x d2), by simp only [DN, Bl ha, cond_true, Ao, ha, Option.bind_some, Ag (show k < 1000000000 by omega)], rfl, by omega, fun e => ?_⟩
   generalize l.elems[k]'(by omega) = y at ha
   dsimp only
   rw [List.take_add_one, ha, Ek]
   by_cases hy : e = y
   .subst hy
    simp
   have hm : e ∈ l.elems.take k ++ (some y).toList ↔ e ∈ l.elems.take k := by simp [hy]
   rw [if_neg hy]
   simp only [hm]
   exact hd e
  refine ⟨c', hr, fun e => ?_⟩
  obtain ⟨g1, g2⟩ := hc' e
  by_cases hm : e ∈ l.elems
  .obtain ⟨a, h1, h2⟩ := g2 hm
   exact .inr ⟨a, l, h1, by rw [h2, Ao]; exact h, hm⟩
  rw [if_neg hm] at g1
  rcases hc e with ⟨h1, h2⟩ | ⟨a, l', h1, h2, h3⟩
  .refine .inl ⟨by rw [g1]; exact h1, fun q hq => ?_⟩
   rw [O3 h] at hq
   rcases List.mem_append.1 hq with hq | hq
   .exact h2 q hq
   rw [List.mem_singleton.1 hq]; exact hm
  exact .inr ⟨a, l', by rw [g1]; exact h1, h2, h3⟩
 exact ⟨a, b, hr, hL⟩
theorem Zj (p : AK) (hv : B6 p) : ∃ n, Cf p = some (some n, 0) /\ UP p n := by
 have q2 := hv.few.joins; have q3 := hv.few.signals
 unfold Cf
 simp only [N9 p hv, Option.bind_some, bne_self_eq_false, cond_false, PZ p hv.few]
 have l2 : ∀ s58 : Int × List (AI × AI), ∃ r, AU (DO p p s58) (0, []) = some r /\ ∃ n, r = (some n, 0) /\ UP p n := by
  intro s58
  refine By (l := p.signals) (fun i c => True) (fun c _ => ?_) (fun i s c h _ => ?_) (c := []) trivial
  .obtain ⟨a, b, hr, hL⟩ := Wq p p hv.few s58 ((p.signals.length : Int), c)
   exact ⟨_, by simp only [DO, B3, cond_false, hr]; rfl, ⟨p, s58.2, c, a, b⟩, rfl, hL⟩
  have := Bg h
  exact .inr ⟨A2 s.at_ (i : Int) c, by simp only [DO, Bl h, cond_true, Ao, h, Option.bind_some, Ag (show i < 1000000000 by omega)], trivial⟩
 obtain ⟨r, hr, n, rfl, hn⟩ : ∃ r, AU (DP p p) (0, []) = some r /\ ∃ n, r = (some n, 0) /\ UP p n := by
  refine By (l := p.joins) (fun i c => True) (fun c _ => ?_) (fun i j c h _ => ?_) (c := []) trivial
  .obtain ⟨r, hr, h⟩ := l2 ((p.joins.length : Int), c)
   exact ⟨r, by simp only [DP, B3, cond_false, hr]; rfl, h⟩
  have := Bg h
  exact .inr ⟨A2 j.b j.a (A2 j.a j.b c), by simp only [DP, Bl h, cond_true, Ao, h, Option.bind_some, Ag (show i < 1000000000 by omega)], trivial⟩
 exact ⟨n, hr, hn⟩
theorem Xo {p : AK} {n : Az} (hv : B6 p) (hN : Cf p = some (some n, 0)) : UP p n := by
 obtain ⟨m, h1, h2⟩ := Zj p hv
 rw [hN] at h1
 cases h1
 exact h2
end Go.E
/- Plain Lean: what a leg wants free, as the document says it. No condition. -/
namespace Go.E
open Go
section
variable {p : AK} {n : Az}
end
end Go.E
/- Plain Lean: what a leg wants free, and what a run claims: the program beside the document. No condition. -/
namespace Go.E
open Go
def JM (m : List (Int × Bool)) : List Int := m.map (·.1)
theorem SW (e : Int) : ∀ m : List (Int × Bool), (JM m).Nodup -> (JM (A2 e true m)).Nodup /\ ∀ x, x ∈ JM (A2 e true m) ↔ x ∈ JM m \/ x = e
 | [], _ => by simp [A2, JM]
 | q :: m, h => by
  unfold JM at h
  rw [List.map_cons, List.nodup_cons] at h
  obtain ⟨h1, h2⟩ := SW e m h.2
  have hu : A2 e true (q :: m) = if (e == q.1) = true then (q.1, true) :: m else q :: A2 e true m := rfl
  by_cases c : e = q.1
  .have : A2 e true (q :: m) = (q.1, true) :: m := by rw [hu, if_pos (by rw [c]; exact beq_self_eq_true _)]
   rw [this]
   unfold JM
   rw [List.map_cons]
   refine ⟨List.nodup_cons.2 h, fun x => ?_⟩
   rw [List.map_cons, c]
   constructor
   .exact .inl
   rintro (h | rfl)
   .exact h
   exact List.mem_cons_self
  have : A2 e true (q :: m) = q :: A2 e true m := by rw [hu, if_neg (fun hh => c (beq_iff_eq.1 hh))]
  rw [this]
  unfold JM at h1 h2 ⊢
  rw [List.map_cons]
  refine ⟨List.nodup_cons.2 ⟨fun hm => ?_, h1⟩, fun x => ?_⟩
  .rcases (h2 q.1).1 hm with hm | hm
   .exact h.1 hm
   exact c hm.symm
  rw [List.map_cons, List.mem_cons, List.mem_cons, h2]
  constructor
  .rintro (h | h | h)
   .exact .inl (.inl h)
   .exact .inl (.inr h)
   exact .inr h
  rintro ((h | h) | h)
  .exact .inl h
  .exact .inr (.inl h)
  exact .inr (.inr h)
structure Pb (m : List (Int × Bool)) (S : Int -> Prop) : Prop where
 nd : (JM m).Nodup
 mem : ∀ x, x ∈ JM m ↔ S x
theorem Pb.put {m : List (Int × Bool)} {S : Int -> Prop} (h : Pb m S) (e : Int) : Pb (A2 e true m) fun x => S x \/ x = e := by
 obtain ⟨h1, h2⟩ := SW e m h.nd
 exact ⟨h1, fun x => by rw [h2, h.mem]⟩
theorem Pb.ext {m : List (Int × Bool)} {S T : Int -> Prop} (h : Pb m S) (e : ∀ x, S x ↔ T x) : Pb m T := ⟨h.nd, fun x => by rw [h.mem, e]⟩
section
variable {p : AK} {n : Az}
end
end Go.E
/- The example that the laws of timetables AJ at, reckoned by the kernel. No condition. -/
namespace Go.E
open Go Go.Proofs
set_option maxRecDepth 100000
theorem Zd : JJ = some true := by kernel_rfl
end Go.E
/- Plain Lean: the laws WayStands, WayRoads, WayChecks answer true, for every argument. No condition. -/
namespace Go.E
open Go
structure ABb (p : AK) (d : Ai) (n : Az) (c : DC) : Prop where
 hv : B6 p
 hN : Cf p = some (some n, 0)
 hn : B4 p n
 hL : UP p n
 plan : c.plan = p
 built : Nf p n c.roads
 hd : MB d
section
variable {p : AK} {n : Az}
theorem Zk (p : AK) : ∃ c b, Fz p = some (c, b) /\ (b = true -> ∃ n, B6 p /\ Cf p = some (some n, 0) /\ B4 p n /\ c.plan = p /\ Nf p n c.roads) := by
 obtain ⟨b, h1, h2⟩ := RO p
 unfold Fz
 simp only [h1, Option.bind_some]
 cases b with
 | false => exact ⟨_, false, rfl, by simp⟩
 | true =>
  have hv := h2 rfl
  obtain ⟨n, hN, hn⟩ := Xi p hv
  obtain ⟨c, e, e1, e2⟩ := Yh hv hN hn
  simp only [Bool.not_true, cond_false, e1, Option.bind_some]
  refine ⟨c, e == 0, rfl, fun h => ?_⟩
  have he : e = 0 := beq_iff_eq.1 h
  rcases e2 with ⟨_, g1, g2⟩ | h3
  .exact ⟨n, hv, hN, hn, g1, g2⟩
  omega
theorem Zl (p : AK) (d : Ai) : ∃ c o b, HX p d = some (c, o, b) /\ (b = true -> ∃ n, o = some n /\ ABb p d n c /\ Xm p d) := by
 unfold HX
 obtain ⟨b0, f1, f2⟩ := VD d
 simp only [f1, Option.bind_some]
 cases b0 with
 | false => exact ⟨_, none, false, rfl, by simp⟩
 | true =>
  have hd := f2 rfl
  obtain ⟨b1, h1, h2⟩ := RO p
  simp only [Bool.not_true, cond_false, h1, Option.bind_some]
  cases b1 with
  | false => exact ⟨_, none, false, rfl, by simp⟩
  | true =>
   have hv := h2 rfl
   simp only [Bool.not_true, cond_false, UO p hv.few hd, Option.bind_some]
   by_cases c0 : Mv p d = 0
   .obtain ⟨c, b, e1, e2⟩ := Zk p
    obtain ⟨n, hN, hn⟩ := Xi p hv
    have hm : H0 p = some (some n) := by
     unfold H0
     simp only [h1, hN, Option.bind_some, Bool.not_true, cond_false, Is, bne_self_eq_false]
    simp only [c0, bne_self_eq_false, cond_false, e1, hm, Option.bind_some, Is]
    refine ⟨c, some n, b, by cases b <;> rfl, fun hb => ?_⟩
    obtain ⟨m, g1, g2, g3, g4, g5⟩ := e2 hb
    rw [hN] at g2
    cases g2
    exact ⟨n, rfl, ⟨hv, hN, hn, Xo hv hN, g4, g5, hd⟩, Xn c0⟩
   have : (Mv p d != 0) = true := bne_iff_ne.2 c0
   rw [this]
   exact ⟨_, none, false, rfl, by simp⟩
theorem R2 (p : AK) (d : Ai) (run leg : Int) : GD p d run leg = some true := by
 unfold GD
 obtain ⟨c, o, b, h1, h2⟩ := Zl p d
 simp only [Zd, Option.bind_some, Bool.not_true, cond_false, h1]
 cases b with
 | false => cases o <;> rfl
 | true =>
  obtain ⟨n, rfl, a, -⟩ := h2 rfl
  simp only [Is, Bool.not_true, cond_false, UK a.hn, UJ, S1 a.hn a.hd, S0 a.hv a.hd, VF a.hv a.hn a.hd, VE a.hv a.hd, Option.bind_some, beq_self_eq_true, cond_true]
end
end Go.E
