/- Plain Lean: what a net says of lines. No condition. -/
import Derived.KernelRfl
import Derived.Test.YtlmjaeojocjhkaaGreatJ5
set_option linter.unusedVariables false
set_option linter.unusedSimpArgs false
namespace Go.E
open Go
def XW (ls : List CQ) (m : List (Int × Bk)) : Prop := ∀ e, (Ak m e = none /\ ∀ l ∈ ls, e ∉ l.elems) \/ ∃ a l, Ak m e = some a /\ AY ls a.a0 = some l /\ e ∈ l.elems
def Kg (p : AK) (n : Ay) : Prop := XW p.lines n.line
theorem XX (p y15 : AK) (hf : EL p) (s58 : Int × List (AI × AI)) (s140 : Int × List (AI × Int)) : ∃ a b, AQ (Cd p y15 s58 s140) (0, [], []) = some (some ⟨y15, s58.2, s140.2, a, b⟩, 0) /\ XW p.lines a := by
 have q4 := hf.lines
 obtain ⟨r, hr, a, b, rfl, hL⟩ : ∃ r, AQ (Cd p y15 s58 s140) (0, [], []) = some r /\ ∃ a b, r = (some ⟨y15, s58.2, s140.2, a, b⟩, 0) /\ XW p.lines a := by
  refine Bp (l := p.lines) (fun i c => ∀ e, (Ak c.1 e = none /\ ∀ l ∈ p.lines.take i, e ∉ l.elems) \/ ∃ a l, Ak c.1 e = some a /\ AY p.lines a.a0 = some l /\ e ∈ l.elems) (fun c hc => ⟨_, by simp only [Cd, Bw, cond_false], c.1, c.2, rfl, fun e => by
   have := hc e; rw [List.take_length] at this; exact this⟩) (fun i l c h hc => ?_) (c := (([], []) : List (Int × Bk) × List (Int × Int))) (fun e => .inl ⟨rfl, by simp⟩)
  have := BV h
  have hal := (hf.line i l h).1
  obtain ⟨t, ht⟩ : ∃ t : Int, ((bif decide (1 < (l.elems.length : Int)) then (AY l.elems 0).bind fun y1186 => ((bif (Ak s58.2 (⟨y1186, 0⟩ : AI)).isSome then (AY l.elems 1).bind fun y1195 => some ((((Ak s58.2 (⟨y1186, 0⟩ : AI)).getD (⟨0, 0⟩ : AI)).elem) == y1195) else some false : Option (Bool))).bind fun (t1192 : Bool) => bif t1192 then some 1 else some 0 else some 0 : Option (Int))) = some t := by
   match hl : l.elems with
   | [] => exact ⟨0, by simp⟩
   | [a] => exact ⟨0, by simp⟩
   | a :: b :: r =>
    have hd : decide (1 < ((a :: b :: r).length : Int)) = true := by simp; omega
    have i0 : AY (a :: b :: r) 0 = some a := rfl
    have i1 : AY (a :: b :: r) 1 = some b := rfl
    simp only [hd, cond_true, i0, i1, Option.bind_some]
    cases (Ak s58.2 (⟨a, 0⟩ : AI)).isSome with
    | false => exact ⟨0, rfl⟩
    | true =>
     simp only [cond_true, Option.bind_some]
     cases ((Ak s58.2 (⟨a, 0⟩ : AI)).getD (⟨0, 0⟩ : AI)).elem == b with
     | false => exact ⟨0, rfl⟩
     | true => exact ⟨1, rfl⟩
  refine .inr ?_
  simp only [Cd, Ba h, cond_true, Am, h, Option.bind_some, ht]
  obtain ⟨r, hr, c', rfl, hc'⟩ : ∃ r, AQ (DX s58 ((i : Int), c) l) (t, 0, c.1, c.2) = some r /\ ∃ c' : List (Int × Bk) × List (Int × Int), r = .inl (((i + 1 : Nat) : Int), c') /\
    ∀ e, Ak c'.1 e = (if e ∈ l.elems then Ak c'.1 e else Ak c.1 e) /\ (e ∈ l.elems -> ∃ a, Ak c'.1 e = some a /\ a.a0 = (i : Int)) := by
   refine Eg (fun k s => s.2.1 = (k : Int) /\ k <= l.elems.length /\ ∀ e, Ak s.2.2.1 e = (if e ∈ l.elems.take k then Ak s.2.2.1 e else Ak c.1 e) /\ (e ∈ l.elems.take k -> ∃ a, Ak s.2.2.1 e = some a /\ a.a0 = (i : Int))) l.elems.length ?_ ⟨rfl, Nat.zero_le _, fun e => ⟨by simp, by simp⟩⟩
   rintro k ⟨x, j, d1, d2⟩ ⟨hj, hk, hd⟩
   simp only at hj hd
   subst hj
   by_cases he : k = l.elems.length
   .subst he
    rw [List.take_length] at hd
    exact .inl ⟨.inl (((i + 1 : Nat) : Int), d1, d2), by simp only [DX, Bw, cond_false, AW (show i < 1000000000 by omega)], (d1, d2), rfl, hd⟩
   have ha : l.elems[k]? = some (l.elems[k]'(by omega)) := List.getElem?_eq_getElem _
   refine .inr ⟨by omega, (((Ak s58.2 (⟨l.elems[k]'(by omega), AO (1 - x)⟩ : AI)).getD (⟨0, 0⟩ : AI)).fin, ((k + 1 : Nat) : Int), A0 (l.elems[k]'(by omega)) (⟨(i : Int), (k : Int)⟩ : Bk) d1, A0 (l.elems[k]'(by omega)) x d2), by simp only [DX, Ba ha, cond_true, Am, ha, Option.bind_some, AW (show k < 1000000000 by omega)], rfl, by omega, fun e => ?_⟩
   generalize l.elems[k]'(by omega) = y at ha
   dsimp only
   rw [List.take_add_one, ha, E5]
   by_cases hy : e = y
   .subst hy
    simp
   have hm : e ∈ l.elems.take k ++ (some y).toList ↔ e ∈ l.elems.take k := by simp [hy]
   rw [if_neg hy]
   simp only [hm]
   exact hd e
  refine ⟨c', hr, fun e => ?_⟩
  obtain ⟨g1, g2⟩ := hc' e
  by_cases hm : e ∈ l.elems
  .obtain ⟨a, h1, h2⟩ := g2 hm
   exact .inr ⟨a, l, h1, by rw [h2, Am]; exact h, hm⟩
  rw [if_neg hm] at g1
  rcases hc e with ⟨h1, h2⟩ | ⟨a, l', h1, h2, h3⟩
  .refine .inl ⟨by rw [g1]; exact h1, fun q hq => ?_⟩
   rw [Ff h] at hq
   rcases List.mem_append.1 hq with hq | hq
   .exact h2 q hq
   rw [List.mem_singleton.1 hq]; exact hm
  exact .inr ⟨a, l', by rw [g1]; exact h1, h2, h3⟩
 exact ⟨a, b, hr, hL⟩
theorem AAY (p : AK) (hv : Bl p) : ∃ n, Cl p = some (some n, 0) /\ Kg p n := by
 have q2 := hv.few.joins; have q3 := hv.few.signals
 unfold Cl
 simp only [OZ p hv, Option.bind_some, bne_self_eq_false, cond_false, NM p hv.few]
 have l2 : ∀ s58 : Int × List (AI × AI), ∃ r, AQ (DY p p s58) (0, []) = some r /\ ∃ n, r = (some n, 0) /\ Kg p n := by
  intro s58
  refine Bp (l := p.signals) (fun i c => True) (fun c _ => ?_) (fun i s c h _ => ?_) (c := []) trivial
  .obtain ⟨a, b, hr, hL⟩ := XX p p hv.few s58 ((p.signals.length : Int), c)
   exact ⟨_, by simp only [DY, Bw, cond_false, hr]; rfl, ⟨p, s58.2, c, a, b⟩, rfl, hL⟩
  have := BV h
  exact .inr ⟨A0 s.at_ (i : Int) c, by simp only [DY, Ba h, cond_true, Am, h, Option.bind_some, AW (show i < 1000000000 by omega)], trivial⟩
 obtain ⟨r, hr, n, rfl, hn⟩ : ∃ r, AQ (DZ p p) (0, []) = some r /\ ∃ n, r = (some n, 0) /\ Kg p n := by
  refine Bp (l := p.joins) (fun i c => True) (fun c _ => ?_) (fun i j c h _ => ?_) (c := []) trivial
  .obtain ⟨r, hr, h⟩ := l2 ((p.joins.length : Int), c)
   exact ⟨r, by simp only [DZ, Bw, cond_false, hr]; rfl, h⟩
  have := BV h
  exact .inr ⟨A0 j.b j.a (A0 j.a j.b c), by simp only [DZ, Ba h, cond_true, Am, h, Option.bind_some, AW (show i < 1000000000 by omega)], trivial⟩
 exact ⟨n, hr, hn⟩
theorem Yb {p : AK} {n : Ay} (hv : Bl p) (hN : Cl p = some (some n, 0)) : Kg p n := by
 obtain ⟨m, h1, h2⟩ := AAY p hv
 rw [hN] at h1
 cases h1
 exact h2
theorem XY {p : AK} {n : Ay} (hL : Kg p n) (e : Int) : ∃ v, DC n e = some v /\ ((v.1 = -1 /\ ∀ l ∈ p.lines, e ∉ l.elems) \/ ∃ l, 0 <= v.1 /\ v.1 < p.lines.length /\ AY p.lines v.1 = some l /\ e ∈ l.elems) := by
 unfold DC
 rcases hL e with ⟨h1, h2⟩ | ⟨a, l, h1, h2, h3⟩
 .rw [h1]; exact ⟨(-1, -1), rfl, .inl ⟨rfl, h2⟩⟩
 rw [h1]
 have := Kz h2
 exact ⟨(a.a0, a.a1), rfl, .inr ⟨l, this.1, this.2, h2, h3⟩⟩
end Go.E
/- Plain Lean: what a leg wants free, as the document says it. No condition. -/
namespace Go.E
open Go
def Js (l : List Ai) (k : Int) : List Int := match AY l k with
 | none => []
 | some r => r.steps.map (·.elem) ++ r.zone
def XZ (l : List Int) (x : Int) : Bool := l.any fun y => y == x
theorem Li {l : List Int} {x : Int} : XZ l x = true ↔ x ∈ l := by
 unfold XZ
 rw [List.any_eq_true]
 constructor
 .rintro ⟨y, h1, h2⟩; rw [beq_iff_eq] at h2; exact h2 ▸ h1
 intro h; exact ⟨x, h, beq_self_eq_true x⟩
def eB (l : List Ai) (ks : List Int) (x : Int) : Bool := XZ (ks.flatMap (Js l)) x
def cB (p : AK) (l : List Ai) (ks : List Int) (x : Int) : Bool := eB l ks x || p.lines.any fun L => XZ L.elems x && L.elems.any (eB l ks)
def L7 (p : AK) (l : List Ai) (ks : List Int) (st : Int) : List Int := ((List.range 40).filter fun e : Nat => cB p l ks (e : Int) && (Ae p (e : Int) != 4 && ((e : Int) != st))).map fun e : Nat => (e : Int)
def NR (p : AK) (e : Int) : Int := if Ae p e = 4 then -1 else e
def L8 (p : AK) (l : List Ai) (d : Al) (run leg : Int) : LN := ⟨L7 p l (GO p l d run leg) (Be p d run leg), NR p (Be p d run (leg + 1))⟩
structure P4 (p : AK) (l : List Ai) : Prop where
 steps : ∀ r ∈ l, ∀ s ∈ r.steps, 0 <= s.elem /\ s.elem < 40
 zone : ∀ r ∈ l, ∀ e ∈ r.zone, 0 <= e /\ e < 40
section
variable {p : AK} {n : Ay}
theorem Sz (hv : Bl p) {L : CQ} (hL : L ∈ p.lines) {e : Int} (he : e ∈ L.elems) : 0 <= e /\ e < 40 := by
 obtain ⟨i, hi⟩ := List.mem_iff_getElem?.1 hL
 obtain ⟨j, hj⟩ := List.mem_iff_getElem?.1 he
 have hk := (hv.line.line i L hi).track j e hj
 have := Fw (p := p) (e := e) (by omega)
 have hne := hv.ne
 omega
theorem S0 : ∀ {ls : List CQ}, (ls.flatMap (·.elems)).Nodup -> ∀ {L M : CQ} {e : Int}, L ∈ ls -> M ∈ ls -> e ∈ L.elems -> e ∈ M.elems -> L = M
 | [], _, L, M, e, h, _, _, _ => by cases h
 | A :: ls, hn, L, M, e, hL, hM, eL, eM => by
  rw [List.flatMap_cons, List.nodup_append] at hn
  obtain ⟨n1, n2, n3⟩ := hn
  rcases List.mem_cons.1 hL with rfl | k1
  .rcases List.mem_cons.1 hM with rfl | k2
   .rfl
   exact absurd rfl (n3 e eL e (List.mem_flatMap.2 ⟨M, k2, eM⟩))
  rcases List.mem_cons.1 hM with rfl | k2
  .exact absurd rfl (n3 e eM e (List.mem_flatMap.2 ⟨L, k1, eL⟩))
  exact S0 n2 k1 k2 eL eM
def QR (p : AK) (e : Int) : List Int := if Ae p e ≠ 0 /\ Ae p e ≠ 4 then [e] else []
def NS (p : AK) (l : List Ai) (d : Al) (run leg : Int) : Fs := match H9 d run leg with
 | none => ⟨[], []⟩
 | some r => ⟨QR p (Be p d run leg), (List.range (r.legs.length - leg.toNat)).map fun j => L8 p l d run ((leg.toNat + j : Nat) : Int)⟩
end
end Go.E
/- Plain Lean: what a leg wants free, and what a run claims: the program beside the document. No condition. -/
namespace Go.E
open Go
def OB (m : List (Int × Bool)) : List Int -> List (Int × Bool)
 | [] => m
 | e :: r => OB (A0 e true m) r
def CD (m : List (Int × Bool)) : List Int := m.map (·.1)
theorem S1 (e : Int) : ∀ m : List (Int × Bool), (CD m).Nodup -> (CD (A0 e true m)).Nodup /\ ∀ x, x ∈ CD (A0 e true m) ↔ x ∈ CD m \/ x = e
 | [], _ => by simp [A0, CD]
 | q :: m, h => by
  unfold CD at h
  rw [List.map_cons, List.nodup_cons] at h
  obtain ⟨h1, h2⟩ := S1 e m h.2
  have hu : A0 e true (q :: m) = if (e == q.1) = true then (q.1, true) :: m else q :: A0 e true m := rfl
  by_cases c : e = q.1
  .have : A0 e true (q :: m) = (q.1, true) :: m := by rw [hu, if_pos (by rw [c]; exact beq_self_eq_true _)]
   rw [this]
   unfold CD
   rw [List.map_cons]
   refine ⟨List.nodup_cons.2 h, fun x => ?_⟩
   rw [List.map_cons, c]
   constructor
   .exact .inl
   rintro (h | rfl)
   .exact h
   exact List.mem_cons_self
  have : A0 e true (q :: m) = q :: A0 e true m := by rw [hu, if_neg (fun hh => c (beq_iff_eq.1 hh))]
  rw [this]
  unfold CD at h1 h2 ⊢
  rw [List.map_cons]
  refine ⟨List.nodup_cons.2 ⟨fun hm => ?_, h1⟩, fun x => ?_⟩
  .rcases (h2 q.1).1 hm with hm | hm
   .exact h.1 hm
   exact c hm.symm
  rw [List.map_cons, List.mem_cons, List.mem_cons, h2]
  constructor
  .rintro (h | h | h)
   .exact .inl (.inl h)
   .exact .inl (.inr h)
   exact .inr h
  rintro ((h | h) | h)
  .exact .inl h
  .exact .inr (.inl h)
  exact .inr (.inr h)
structure Cp (m : List (Int × Bool)) (S : Int -> Prop) : Prop where
 nd : (CD m).Nodup
 mem : ∀ x, x ∈ CD m ↔ S x
theorem Cp.put {m : List (Int × Bool)} {S : Int -> Prop} (h : Cp m S) (e : Int) : Cp (A0 e true m) fun x => S x \/ x = e := by
 obtain ⟨h1, h2⟩ := S1 e m h.nd
 exact ⟨h1, fun x => by rw [h2, h.mem]⟩
theorem Cp.puts : ∀ (l : List Int) {m : List (Int × Bool)} {S : Int -> Prop}, Cp m S -> Cp (OB m l) fun x => S x \/ x ∈ l
 | [], m, S, h => ⟨h.nd, fun x => by rw [OB, h.mem]; simp⟩
 | e :: l, m, S, h => by
  have := Cp.puts l (h.put e)
  exact ⟨this.nd, fun x => by
   show x ∈ CD (OB (A0 e true m) l) ↔ _
   rw [this.mem, List.mem_cons, or_assoc]⟩
theorem Cp.ext {m : List (Int × Bool)} {S T : Int -> Prop} (h : Cp m S) (e : ∀ x, S x ↔ T x) : Cp m T := ⟨h.nd, fun x => by rw [h.mem, e]⟩
theorem S2 (y : Int) : ∀ m : List (Int × Bool), (CD m).Nodup -> (CD (EU y m)).Nodup /\ ∀ x, x ∈ CD (EU y m) ↔ x ∈ CD m /\ x ≠ y
 | [], _ => by simp [EU, CD]
 | q :: m, h => by
  unfold CD at h
  rw [List.map_cons, List.nodup_cons] at h
  obtain ⟨h1, h2⟩ := S2 y m h.2
  have hu : EU y (q :: m) = if (y == q.1) = true then m else q :: EU y m := rfl
  by_cases c : y = q.1
  .have : EU y (q :: m) = m := by rw [hu, if_pos (by rw [c]; exact beq_self_eq_true _)]
   rw [this]
   unfold CD
   refine ⟨h.2, fun x => ?_⟩
   rw [List.map_cons, List.mem_cons, c]
   constructor
   .intro hm; exact ⟨.inr hm, fun e => h.1 (e ▸ hm)⟩
   rintro ⟨hm | hm, hne⟩
   .exact absurd hm hne
   exact hm
  have : EU y (q :: m) = q :: EU y m := by rw [hu, if_neg (fun hh => c (beq_iff_eq.1 hh))]
  rw [this]
  unfold CD at h1 h2 ⊢
  rw [List.map_cons]
  refine ⟨List.nodup_cons.2 ⟨fun hm => h.1 ((h2 q.1).1 hm).1, h1⟩, fun x => ?_⟩
  rw [List.map_cons, List.mem_cons, List.mem_cons, h2]
  constructor
  .rintro (rfl | ⟨a, b⟩)
   .exact ⟨.inl rfl, fun e => c e.symm⟩
   exact ⟨.inr a, b⟩
  rintro ⟨a | a, b⟩
  .exact .inl a
  exact .inr ⟨a, b⟩
theorem Qo : ∀ (l : List Int) (a b : Int), a <= b -> l.Pairwise (· < ·) -> (∀ x ∈ l, a <= x /\ x < b) -> (l.length : Int) <= b - a
 | [], a, b, h, _, _ => by simp; omega
 | x :: l, a, b, h, hp, hm => by
  rw [List.pairwise_cons] at hp
  have hx := hm x (by simp)
  have := Qo l (x + 1) b (by omega) hp.2 fun y hy => by have := hp.1 y hy; have := hm y (by simp [hy]); omega
  rw [List.length_cons]
  omega
theorem QS {l : List Int} (h : l.Nodup) : (Dw l).Pairwise (· < ·) := by
 have h1 := OC l
 have h2 : (Dw l).Nodup := (Eu l).nodup_iff.2 h
 have := List.Pairwise.and h1 h2
 exact this.imp fun {a b} ⟨h3, h4⟩ => by have : a ≠ b := h4; omega
theorem Uv {m : List (Int × Bool)} (h : (CD m).Nodup) (hr : ∀ x ∈ CD m, 0 <= x /\ x < 40) : M0 m = some (Dw (CD m)) := by
 have h2 := Qo (Dw (CD m)) 0 40 (by omega) (QS h) fun x hx => hr x ((Eu _).mem_iff.1 hx)
 have h3 : (Dw (CD m)).length = m.length := by rw [(Eu _).length_eq]; unfold CD; simp
 unfold M0
 have e1 : decide (m.length * 8 <= 140737488355328) = true := by simp; omega
 have e2 : NT (m.map (·.1)) = true := (OD _).2 h
 have e3 : m.all (fun p => Tq p.1) = true := List.all_eq_true.2 fun q hq => by
  have := hr q.1 (List.mem_map.2 ⟨q, hq, rfl⟩)
  unfold Tq
  simp [Lit.wf, IntKind.min, IntKind.max, IntKind.signed, IntKind.bits]
  omega
 rw [e1, e2, e3]
 rfl
section
variable {p : AK} {n : Ay}
def WQ (p : AK) (e x : Int) : Prop := x = e \/ ∃ L ∈ p.lines, e ∈ L.elems /\ x ∈ L.elems
theorem Xa (L : CQ) (hl : L.elems.length <= 1000) (m : List (Int × Bool)) : AQ (Dh L) (0, m) = some (OB m L.elems) :=
 D2 L.elems (fun i (c : List (Int × Bool)) => ((i : Int), c)) (fun i c l => some (OB c l)) (step := Dh L) (fun c => by simp only [Dh, Bw, cond_false]; rfl) (fun i c e l he hi =>
  .inr ⟨A0 e true c, by simp only [Dh, Ba he, cond_true, Am, he, Option.bind_some, AW (show i < 1000000000 by omega)], rfl⟩) m
theorem Xb (L : CQ) (hl : L.elems.length <= 1000) (m : List (Int × Bool)) : AQ (Di L) (0, m) = some (OB m L.elems) :=
 D2 L.elems (fun i (c : List (Int × Bool)) => ((i : Int), c)) (fun i c l => some (OB c l)) (step := Di L) (fun c => by simp only [Di, Bw, cond_false]; rfl) (fun i c e l he hi =>
  .inr ⟨A0 e true c, by simp only [Di, Ba he, cond_true, Am, he, Option.bind_some, AW (show i < 1000000000 by omega)], rfl⟩) m
theorem Yc (hv : Bl p) (hL : Kg p n) {S : Int -> Prop} {m : List (Int × Bool)} (hm : Cp m S) (e : Int) : ∃ v m', DC n e = some v /\ Cp m' (fun x => S x \/ WQ p e x) /\
  ((decide (0 <= v.1) = true /\ decide (v.1 < (p.lines.length : Int)) = true /\ ∃ L, AY p.lines v.1 = some L /\ AQ (Dh L) (0, A0 e true m) = some m' /\ AQ (Di L) (0, A0 e true m) = some m') \/ (decide (0 <= v.1) = false /\ A0 e true m = m')) := by
 obtain ⟨v, h1, h2⟩ := XY hL e
 rcases h2 with ⟨h2, h3⟩ | ⟨L, h2, h3, h4, h5⟩
 .refine ⟨v, A0 e true m, h1, (hm.put e).ext fun x => ?_, .inr ⟨by rw [h2]; rfl, rfl⟩⟩
  unfold WQ
  constructor
  .rintro (h | h)
   .exact .inl h
   exact .inr (.inl h)
  rintro (h | h | ⟨L, g1, g2, -⟩)
  .exact .inl h
  .exact .inr h
  exact absurd g2 (h3 L g1)
 obtain ⟨g1, g2⟩ := FY h4
 have hLl := (hv.few.line _ L g1).1
 have hmem : L ∈ p.lines := List.mem_of_getElem? g1
 refine ⟨v, OB (A0 e true m) L.elems, h1, (Cp.puts L.elems (hm.put e)).ext fun x => ?_, .inl ⟨by simpa using h2, by simpa using h3, L, h4, Xa L (by omega) _, Xb L (by omega) _⟩⟩
 unfold WQ
 constructor
 .rintro ((h | h) | h)
  .exact .inl h
  .exact .inr (.inl h)
  exact .inr (.inr ⟨L, hmem, h5, h⟩)
 rintro (h | h | ⟨M, k1, k2, k3⟩)
 .exact .inl (.inl h)
 .exact .inl (.inr h)
 have := S0 hv.line.once hmem k1 h5 k2
 subst this
 exact .inr k3
def IA (p : AK) (es : List Int) (x : Int) : Prop := ∃ e ∈ es, WQ p e x
theorem Uw (es : List Int) (e : Int) (S : Int -> Prop) (x : Int) : ((S x \/ IA p es x) \/ WQ p e x) ↔ (S x \/ IA p (es ++ [e]) x) := by
 unfold IA
 constructor
 .rintro ((h | ⟨f, h1, h2⟩) | h)
  .exact .inl h
  .exact .inr ⟨f, by simp [h1], h2⟩
  exact .inr ⟨e, by simp, h⟩
 rintro (h | ⟨f, h1, h2⟩)
 .exact .inl (.inl h)
 rcases List.mem_append.1 h1 with h1 | h1
 .exact .inl (.inr ⟨f, h1, h2⟩)
 rw [List.mem_singleton.1 h1] at h2; exact .inr h2
theorem Xc (hv : Bl p) (hL : Kg p n) (s : Int × List (Int × Bool)) (hs : 0 <= s.1 /\ s.1 < 1000000) (r : Ai) (hz : r.zone.length <= 1000) {S : Int -> Prop} {m : List (Int × Bool)} (hm : Cp m S) :
  ∃ m', AQ (Ea n p.lines s r) (0, m) = some (.inl (s.1 + 1, m')) /\ Cp m' (fun x => S x \/ IA p r.zone x) := by
 obtain ⟨b, h1, m', rfl, h2⟩ := Bp (l := r.zone) (step := Ea n p.lines s r) (Post := fun b => ∃ m', b = Sum.inl (s.1 + 1, m') /\ Cp m' (fun x => S x \/ IA p r.zone x)) (fun i c => Cp c (fun x => S x \/ IA p (r.zone.take i) x)) (fun c hc => by
   rw [List.take_length] at hc
   exact ⟨_, by simp only [Ea, Bw, cond_false, B1 (n := s.1 + 1) (by omega) (by omega)], c, rfl, hc⟩) (fun i e c he hc => by
   have hi := BV he
   obtain ⟨v, c', g1, g2, g3⟩ := Yc hv hL hc e
   have g2' : Cp c' (fun x => S x \/ IA p (r.zone.take (i + 1)) x) := g2.ext fun x => by rw [Ff he]; exact Uw _ _ _ _
   refine .inr ⟨c', ?_, g2'⟩
   simp only [Ea, Ba he, cond_true, Am, he, Option.bind_some, g1, AW (show i < 1000000000 by omega)]
   rcases g3 with ⟨k1, k2, L, k3, -, k4⟩ | ⟨k1, k2⟩
   .simp only [k1, k2, k3, k4, cond_true, Option.bind_some]
   simp only [k1, k2, cond_false, Option.bind_some]) (c := m) (hm.ext fun x => by simp [IA])
 exact ⟨m', h1, h2⟩
theorem WR (es fs : List Int) (S : Int -> Prop) (x : Int) : ((S x \/ IA p es x) \/ IA p fs x) ↔ (S x \/ IA p (es ++ fs) x) := by
 unfold IA
 constructor
 .rintro ((h | ⟨f, h1, h2⟩) | ⟨f, h1, h2⟩)
  .exact .inl h
  .exact .inr ⟨f, by simp [h1], h2⟩
  exact .inr ⟨f, by simp [h1], h2⟩
 rintro (h | ⟨f, h1, h2⟩)
 .exact .inl (.inl h)
 rcases List.mem_append.1 h1 with h1 | h1
 .exact .inl (.inr ⟨f, h1, h2⟩)
 exact .inr ⟨f, h1, h2⟩
theorem Xd (hv : Bl p) (hL : Kg p n) {l : List Ai} {k : Int} {r : Ai} (hk : AY l k = some r) (s : Int × List (Int × Bool)) (hs : 0 <= s.1 /\ s.1 < 1000000) (h1 : r.steps.length <= 1000) (hz : r.zone.length <= 1000) {S : Int -> Prop} {m : List (Int × Bool)} (hm : Cp m S) :
  ∃ m', AQ (Eb n p.lines l s k r) (0, m) = some (.inl (s.1 + 1, m')) /\ Cp m' (fun x => S x \/ IA p (Js l k) x) := by
 have er : Js l k = r.steps.map (·.elem) ++ r.zone := by unfold Js; rw [hk]
 rw [er]
 obtain ⟨b, h1, m', rfl, h2⟩ := Bp (l := r.steps) (step := Eb n p.lines l s k r) (Post := fun b => ∃ m', b = Sum.inl (s.1 + 1, m') /\ Cp m' (fun x => S x \/ IA p (r.steps.map (·.elem) ++ r.zone) x)) (fun i c => Cp c (fun x => S x \/ IA p ((r.steps.take i).map (·.elem)) x)) (fun c hc => by
   rw [List.take_length] at hc
   obtain ⟨m', g1, g2⟩ := Xc hv hL s hs r hz hc
   exact ⟨_, by simp only [Eb, Bw, cond_false, hk, Option.bind_some, g1]; rfl, m', rfl, g2.ext fun x => WR _ _ _ _⟩) (fun i t c he hc => by
   have hi := BV he
   obtain ⟨v, c', g1, g2, g3⟩ := Yc hv hL hc t.elem
   have g2' : Cp c' (fun x => S x \/ IA p ((r.steps.take (i + 1)).map (·.elem)) x) := g2.ext fun x => by rw [IM he]; exact Uw _ _ _ _
   refine .inr ⟨c', ?_, g2'⟩
   simp only [Eb, Ba he, cond_true, Am, he, Option.bind_some, g1, AW (show i < 1000000000 by omega)]
   rcases g3 with ⟨k1, k2, L, k3, k4, -⟩ | ⟨k1, k2⟩
   .simp only [k1, k2, k3, k4, cond_true, Option.bind_some]
   simp only [k1, k2, cond_false, Option.bind_some]) (c := m) (hm.ext fun x => by simp [IA])
 exact ⟨m', h1, h2⟩
theorem PY (hn : Bb p n) (x : Int) : FJ x (some n) = some (Ae p x == 4) := by
 unfold FJ
 simp only [Io, Fv hn, Option.bind_some]
theorem Ux (hn : Bb p n) (y : List Int) (hy : y.length <= 1000) : ((AQ (GD n y) 0).bind fun t => bif (t == (-1)) then some y else AQ (Dj n) (t, AO (t + 1), y)) = some (y.filter fun x => Ae p x != 4) := by
 rw [Rl (l := y) (fun _ x => Ae p x == 4) (fun i => (i : Int)) (some (-1)) (by simp [GD]) (fun i x hx => by
  have := BV hx
  simp only [GD, Ba hx, cond_true, Am, hx, Option.bind_some, PY hn, AW (show i < 1000000000 by omega)]
  cases Ae p x == 4 <;> rfl)]
 cases hf : EN (fun _ x => Ae p x == 4) 0 y with
 | none =>
  have h := (Mf y 0).1 hf
  simp only [WS, Option.bind_some, beq_self_eq_true, cond_true, Option.some.injEq]
  symm
  rw [List.filter_eq_self]
  intro x hx
  obtain ⟨k, hk⟩ := List.mem_iff_getElem?.1 hx
  have := h k x hk
  simp only [bne, this, Bool.not_false]
 | some j =>
  obtain ⟨k, a, h1, h2, h3, h4⟩ := (Mg y 0 j).1 hf
  have hjk : j = k := by omega
  subst hjk
  have hj := BV h2
  have hne : (((j : Nat) : Int) == (-1)) = false := beq_eq_false_iff_ne.2 (by omega)
  simp only [WS, Option.bind_some, hne, cond_false, AW (show j < 1000000000 by omega)]
  have hpre : (y.take j).filter (fun x => Ae p x != 4) = y.take j := by
   rw [List.filter_eq_self]
   intro x hx
   obtain ⟨m, hm⟩ := List.mem_iff_getElem?.1 hx
   have hml : m < j := by have := BV hm; rw [List.length_take] at this; omega
   rw [List.getElem?_take_of_lt hml] at hm
   have := h4 m x hml hm
   simp only [bne]
   rw [this]; rfl
  have h3' : (Ae p a != 4) = false := by unfold bne; rw [h3]; rfl
  obtain ⟨b, hb, rfl⟩ := Eg (step := Dj n) (Post := fun b => b = y.filter fun x => Ae p x != 4)
   (fun q s => ∃ i : Nat, s.1 = (i : Int) /\ s.2.1 = ((j + 1 + q : Nat) : Int) /\ j + 1 + q <= y.length /\ i < j + 1 + q /\ s.2.2.length = y.length /\ s.2.2.take i = (y.take (j + 1 + q)).filter (fun x => Ae p x != 4) /\ s.2.2.drop (j + 1 + q) = y.drop (j + 1 + q)) y.length (s := ((j : Int), ((j + 1 : Nat) : Int), y)) (by
   rintro q ⟨s1, s2, z⟩ ⟨i, e1, e2, hq, hi, hz, ht, hd⟩
   simp only at e1 e2 hz ht hd
   subst e1 e2
   by_cases he : j + 1 + q = y.length
   .left
    rw [he] at ht hi
    have c1 : JL z (i : Int) (z.length : Int) = some (z.drop i) := by
     unfold JL Hv
     rw [if_pos ⟨by omega, by omega, by omega⟩]
     simp
    have c2 : Qi (0 : Int) z (z.drop i) = some (z.take i ++ List.replicate (z.length - i) 0) := by
     unfold Qi
     rw [if_neg (by simp; omega), List.length_drop, show z.length - (z.length - i) = i by omega]
    have c3 : JL (z.take i ++ List.replicate (z.length - i) (0 : Int)) 0 (i : Int) = some (z.take i) := by
     have hl : (z.take i).length = i := by rw [List.length_take]; omega
     unfold JL Hv
     rw [if_pos ⟨by omega, by omega, by simp; omega⟩]
     simp only [Int.toNat_natCast, Int.toNat_zero, List.drop_zero]
     rw [List.take_append_of_le_length (by omega), List.take_of_length_le (by omega)]
    refine ⟨z.take i, ?_, by rw [ht, List.take_length]⟩
    simp only [Dj, he, hz, show ¬ (y.length : Int) < (y.length : Int) by omega, decide_false, cond_false]
    rw [<- hz, c1]
    simp only [Option.bind_some, c2, c3]
    rfl
   right
   have hlt : j + 1 + q < y.length := by omega
   obtain ⟨v, hv⟩ : ∃ v, y[j + 1 + q]? = some v := ⟨_, List.getElem?_eq_getElem hlt⟩
   have hzv : z[j + 1 + q]? = some v := by
    have e1 : (z.drop (j + 1 + q))[0]? = z[j + 1 + q]? := by rw [List.getElem?_drop]; rfl
    have e2 : (y.drop (j + 1 + q))[0]? = y[j + 1 + q]? := by rw [List.getElem?_drop]; rfl
    rw [<- e1, hd, e2, hv]
   obtain ⟨o, ho⟩ : ∃ o, z[i]? = some o := ⟨_, List.getElem?_eq_getElem (by omega)⟩
   have hdz : z.drop (j + 1 + (q + 1)) = y.drop (j + 1 + (q + 1)) := by
    have := congrArg (List.drop 1) hd
    rw [List.drop_drop, List.drop_drop] at this
    exact this
   have hcond : decide (((j + 1 + q : Nat) : Int) < (z.length : Int)) = true := by simp; omega
   refine ⟨by omega, ?_⟩
   by_cases k4 : Ae p v = 4
   .refine ⟨((i : Int), ((j + 1 + (q + 1) : Nat) : Int), z), ?_, i, rfl, rfl, by omega, by omega, hz, ?_, hdz⟩
    .have : (Ae p v == 4) = true := beq_iff_eq.2 k4
     simp only [Dj, hcond, cond_true, Am, hzv, Option.bind_some, PY hn, this, Bool.not_true, cond_false, AW (show j + 1 + q < 1000000000 by omega)]
     rfl
    have : (Ae p v != 4) = false := by unfold bne; rw [beq_iff_eq.2 k4]; rfl
    dsimp only
    rw [show j + 1 + (q + 1) = (j + 1 + q) + 1 by omega, Ff hv, List.filter_append, <- ht]
    simp [this]
   .have hk : (Ae p v == 4) = false := beq_eq_false_iff_ne.2 k4
    refine ⟨(((i + 1 : Nat) : Int), ((j + 1 + (q + 1) : Nat) : Int), A5 z (i : Int) v), ?_, i + 1, rfl, rfl, by omega, by omega, by dsimp only; rw [BF]; exact hz, ?_, ?_⟩
    .simp only [Dj, hcond, cond_true, Am, hzv, ho, Option.bind_some, PY hn, hk, Bool.not_false, AW (show j + 1 + q < 1000000000 by omega), AW (show i < 1000000000 by omega)]
     rfl
    .have : (Ae p v != 4) = true := by unfold bne; rw [hk]; rfl
     dsimp only
     rw [show j + 1 + (q + 1) = (j + 1 + q) + 1 by omega, Ff hv, List.filter_append, <- ht]
     simp only [List.filter_cons, List.filter_nil, this, if_true]
     unfold A5
     rw [Int.toNat_natCast, List.set_eq_take_append_cons_drop, if_pos (show i < z.length by omega)]
     have hl : (z.take i).length = i := by rw [List.length_take]; omega
     rw [List.take_append, hl, show i + 1 - i = 1 by omega, List.take_of_length_le (show (z.take i).length <= i + 1 by omega)]
     rfl
    dsimp only
    unfold A5
    rw [Int.toNat_natCast, List.drop_set_of_lt (by omega)]
    exact hdz) ⟨j, rfl, rfl, by omega, by omega, rfl, by
   dsimp only
   rw [Nat.add_zero, Ff h2, List.filter_append, hpre]
   simp [h3'], rfl⟩
  exact hb
theorem Vs (hv : Bl p) (hn : Bb p n) (hL : Kg p n) {d : Al} (hd : Lg d) (hx : P2 d) {l : List Ai} (hl : NO l) (he : P4 p l) (run leg : Int) :
  Iv n p.lines l d run leg = some (L7 p l (GO p l d run leg) (Be p d run leg)) := by
 unfold Iv
 rw [Uq hv hn hd hx hl]
 simp only [Option.bind_some]
 have hks : ∀ k ∈ GO p l d run leg, ∃ r, AY l k = some r /\ r ∈ l := fun k hk => by
  obtain ⟨-, i, a, x, s, rfl, h2, -⟩ := XQ hk
  exact ⟨a, h2, List.mem_of_getElem? h2⟩
 have hlen : (GO p l d run leg).length <= 64 := by have := XR (p := p) (l := l) (d := d) (run := run) (leg := leg); have := hl.len; omega
 generalize GO p l d run leg = ks at hks hlen
 have hall : ∀ x ∈ ks.flatMap (Js l), 0 <= x /\ x < 40 := fun x hm => by
  obtain ⟨k, hk, hm⟩ := List.mem_flatMap.1 hm
  obtain ⟨r, h1, h2⟩ := hks k hk
  unfold Js at hm
  rw [h1] at hm
  rcases List.mem_append.1 hm with hm | hm
  .obtain ⟨t, ht, rfl⟩ := List.mem_map.1 hm
   exact he.steps r h2 t ht
  exact he.zone r h2 x hm
 obtain ⟨b, hb, rfl⟩ := Bp (l := ks) (step := GE n p.lines l d run leg ks) (Post := fun b => b = L7 p l ks (Be p d run leg)) (fun i c => Cp c (IA p ((ks.take i).flatMap (Js l)))) (fun c hc => by
   rw [List.take_length] at hc
   obtain ⟨g1, g2⟩ := S2 (Be p d run leg) c hc.nd
   have hin : ∀ x ∈ CD (EU (Be p d run leg) c), 0 <= x /\ x < 40 := fun x hm => by
    obtain ⟨e, h1, h2⟩ := (hc.mem x).1 ((g2 x).1 hm).1
    rcases h2 with rfl | ⟨L, h3, -, h5⟩
    .exact hall x h1
    exact Sz hv h3 h5
   have hrise := Uv g1 hin
   have hstr := QS g1
   have hlen2 := Qo _ 0 40 (by omega) hstr fun x hx => hin x ((Eu _).mem_iff.1 hx)
   refine ⟨(Dw (CD (EU (Be p d run leg) c))).filter fun x => Ae p x != 4, ?_, ?_⟩
   .have hdel := Ux hn (Dw (CD (EU (Be p d run leg) c))) (by omega)
    simp only [GE, Bw, cond_false, GN hn hd, Option.bind_some, Hj, hrise]
    rw [hdel]
    rfl
   .refine Rn (hstr.sublist List.filter_sublist) ?_ fun x => ?_
    .unfold L7
     rw [List.pairwise_map]
     refine List.Pairwise.sublist List.filter_sublist ?_
     exact (List.pairwise_lt_range (n := 40)).imp fun {a b} h => by omega
    rw [List.mem_filter, (Eu _).mem_iff, g2, hc.mem]
    unfold L7
    rw [List.mem_map]
    have hcl : IA p (ks.flatMap (Js l)) x ↔ cB p l ks x = true := by
     unfold IA WQ cB eB
     rw [Bool.or_eq_true, Li, List.any_eq_true]
     constructor
     .rintro ⟨e, h1, rfl | ⟨L, h2, h3, h4⟩⟩
      .exact .inl h1
      exact .inr ⟨L, h2, by rw [Bool.and_eq_true, Li, List.any_eq_true]; exact ⟨h4, e, h3, Li.2 h1⟩⟩
     rintro (h1 | ⟨L, h2, h3⟩)
     .exact ⟨x, h1, .inl rfl⟩
     rw [Bool.and_eq_true, Li, List.any_eq_true] at h3
     obtain ⟨h4, e, h5, h6⟩ := h3
     exact ⟨e, Li.1 h6, .inr ⟨L, h2, h5, h4⟩⟩
    constructor
    .rintro ⟨⟨h1, h2⟩, h3⟩
     have h0 : 0 <= x /\ x < 40 := by
      obtain ⟨e, k1, k2⟩ := h1
      rcases k2 with rfl | ⟨L, h3, -, h5⟩
      .exact hall x k1
      exact Sz hv h3 h5
     obtain ⟨m, rfl⟩ := Int.eq_ofNat_of_zero_le h0.1
     refine ⟨m, List.mem_filter.2 ⟨List.mem_range.2 (by omega), ?_⟩, rfl⟩
     rw [Bool.and_eq_true, Bool.and_eq_true]
     exact ⟨hcl.1 h1, h3, bne_iff_ne.2 h2⟩
    rintro ⟨m, hm, rfl⟩
    obtain ⟨-, hm⟩ := List.mem_filter.1 hm
    rw [Bool.and_eq_true, Bool.and_eq_true] at hm
    exact ⟨⟨hcl.2 hm.1, bne_iff_ne.1 hm.2.2⟩, hm.2.1⟩) (fun i k c hk hc => by
   have hi := BV hk
   obtain ⟨a, h1, h2⟩ := hks k (List.mem_of_getElem? hk)
   obtain ⟨s1, s2⟩ := hl.steps a h2
   have s3 := hl.zone a h2
   obtain ⟨m', g1, g2⟩ := Xd hv hL h1 ((i : Int), c) (by simp only; omega) (by omega) (by omega) hc
   refine .inr ⟨m', ?_, g2.ext fun x => ?_⟩
   .simp only [GE, Ba hk, cond_true, Am, hk, Option.bind_some, h1, g1]
    rfl
   rw [Ff hk, List.flatMap_append, List.flatMap_cons, List.flatMap_nil, List.append_nil]
   have := WR (p := p) ((ks.take i).flatMap (Js l)) (Js l k) (fun _ => False) x
   simpa using this) (c := []) ⟨by simp [CD], fun x => by simp [CD, IA]⟩
 exact hb
theorem PZ (hn : Bb p n) (e : Int) : GV n e = some (NR p e) := by
 unfold GV NR
 simp only [Fv hn, Option.bind_some, C6]
 split <;> rfl
theorem L9 (hv : Bl p) (hn : Bb p n) (hL : Kg p n) {d : Al} (hd : Lg d) (hx : P2 d) {l : List Ai} (hl : NO l) (he : P4 p l) {run : Int} {r : DT} (hr : AY d.runs run = some r) (b : Bool) (at_ : List Int) :
  ∀ (m : Nat) (leg : Nat) (c : List LN), leg + m = r.legs.length -> c.length <= leg -> AQ (D6 n l d run (r.legs, b) at_ p) ((leg : Int), c) = some ⟨at_, c ++ (List.range m).map fun j => L8 p l d run ((leg + j : Nat) : Int)⟩
 | 0, leg, c, hm, _ => by
  have hL := (hd.legs _ r (FY hr).1).1
  refine Fe ?_
  simp only [D6, show ¬ (leg : Int) < (r.legs.length : Int) by omega, decide_false, cond_false, List.range_zero, List.map_nil, List.append_nil]
 | m + 1, leg, c, hm, hc => by
  have hLL := (hd.legs _ r (FY hr).1).1
  have ha : ∀ w : LN, Bu c [w] = some (c ++ [w]) := fun w => By (by simp; omega)
  have e1 : D6 n l d run (r.legs, b) at_ p ((leg : Int), c) = some (.inl (((leg + 1 : Nat) : Int), c ++ [L8 p l d run (leg : Int)])) := by
   simp only [D6, show (leg : Int) < (r.legs.length : Int) by omega, decide_true, cond_true, Vs hv hn hL hd hx hl he, GN hn hd, PZ hn, Option.bind_some, AW (show leg < 1000000000 by omega), ha]
   rfl
  rw [D1 e1, L9 hv hn hL hd hx hl he hr b at_ m (leg + 1) _ (by omega) (by simp; omega), List.range_succ_eq_map]
  simp only [List.map_cons, List.map_map, List.append_assoc, List.cons_append, List.nil_append, Nat.add_zero]
  congr 4
  refine List.map_congr_left fun j _ => ?_
  simp only [Function.comp]
  congr 1
  omega
theorem Ro (hv : Bl p) {d : Al} (hk : PX p d) (run leg : Int) : Be p d run leg = -1 \/ (Ae p (Be p d run leg) = 1 \/ Ae p (Be p d run leg) = 4) := by
 unfold Be Tm
 cases h : H9 d run leg with
 | none => exact .inl rfl
 | some r =>
  obtain ⟨hr, h1, h2, h3, h4⟩ := IV h
  simp only [Option.bind_some]
  have sg : ∀ s q, FX p s = some q -> Ae p q.elem = 1 \/ Ae p q.elem = 4 := fun s q hq => by
   unfold FX at hq
   obtain ⟨a, ha, rfl⟩ := Option.map_eq_some_iff.1 hq
   exact hv.sig.kind _ a (FY ha).1
  cases hh : IN p r leg with
  | none => exact .inl rfl
  | some q =>
   right
   simp only [Option.map_some, Option.getD_some]
   unfold IN at hh
   split at hh
   .exact sg _ _ hh
   obtain ⟨x, hx, hh⟩ := Option.bind_eq_some_iff.1 hh
   unfold Tl at hh
   split at hh
   .exact sg _ _ hh
   split at hh
   .rename_i c1 c3
    cases hh
    rw [(Ul x.to).1]
    have := hk.leads _ r (FY hr).1 x (List.mem_of_getElem? (FY hx).1)
    unfold PV at this
    rw [if_neg c1, if_neg (by omega), if_pos c3] at this
    exact .inl (beq_iff_eq.1 this)
   cases hh
theorem ABy (hv : Bl p) {d : Al} (hk : PX p d) (run leg : Int) : (bif decide (0 <= NR p (Be p d run leg)) then some [NR p (Be p d run leg)] else some ([] : List Int) : Option (List Int)) = some (QR p (Be p d run leg)) := by
 unfold QR NR
 rcases Ro hv hk run leg with h | h | h
 .rw [h]
  have : Ae p (-1) = 0 := by unfold Ae; rw [CB (.inl (by omega))]; rfl
  simp [this]
 .have := Fw (p := p) (e := Be p d run leg) (by omega)
  simp [h, this.1]
 simp [h]
theorem Uy (hv : Bl p) (hn : Bb p n) (hL : Kg p n) {d : Al} (hd : Lg d) (hk : PX p d) {l : List Ai} (hl : NO l) (he : P4 p l) (run leg : Int) : E2 n l d run leg = some (NS p l d run leg) := by
 unfold E2 NS
 rw [Mc]
 cases h : H9 d run leg with
 | none => rfl
 | some r =>
  obtain ⟨hr, h1, h2, h3, h4⟩ := IV h
  obtain ⟨k, rfl⟩ := Int.eq_ofNat_of_zero_le h1
  simp only [Option.isSome_some, Bool.not_true, Option.bind_some, cond_false, Option.map_some, Option.getD_some, GN hn hd, PZ hn, ABy hv hk, Rj hn hv.few]
  have := L9 hv hn hL hd hk.ix hl he hr true (QR p (Be p d run (k : Int))) (r.legs.length - k) k [] (by omega) (by simp)
  simpa using this
theorem SQ (c : Fs) (h1 : c.at_.length <= 1000) (h2 : c.legs.length <= 1000) (h3 : ∀ w ∈ c.legs, w.free.length <= 1000) : Ej c c = some true := by
 unfold Ej
 simp only [Oa c.at_ (by omega), Option.bind_some, Bool.not_true, cond_false, bne_self_eq_false]
 exact AAZ (l := c.legs) (by simp [Ei]) (fun i w hw => by
  have hi := BV hw
  simp only [Ei, Ba hw, cond_true, Am, hw, Option.bind_some, bne_self_eq_false, cond_false, Oa w.free (show w.free.length < 1000000 by have := h3 w (List.mem_of_getElem? hw); omega), Bool.not_true, AW (show i < 1000000000 by omega)])
theorem Zc (l : List Ai) (ks : List Int) (st : Int) : (L7 p l ks st).length <= 40 := by
 unfold L7
 rw [List.length_map]
 exact Nat.le_trans (List.length_filter_le _ _) (by simp)
end
end Go.E
/- The example that the laws of timetables AJ at, reckoned by the kernel. No condition. -/
namespace Go.E
open Go Go.Proofs
set_option maxRecDepth 100000
theorem AAT : Jp = some true := by kernel_rfl
end Go.E
/- Plain Lean: the laws WayStands, WayRoads, WayChecks answer true, for every argument. No condition. -/
namespace Go.E
open Go
structure ACS (p : AK) (d : Al) (n : Ay) (c : DJ) : Prop where
 hv : Bl p
 hN : Cl p = some (some n, 0)
 hn : Bb p n
 hL : Kg p n
 plan : c.plan = p
 built : Jt p n c.roads
 hd : Lg d
section
variable {p : AK} {n : Ay}
theorem Vt (hv : Bl p) (hn : Bb p n) {l : List Ai} (hb : Jt p n l) : NO l /\ P4 p l := by
 have key : ∀ q ∈ l, ∃ (s : Nat) (r : Ai), r ∈ IB p (s : Int) /\ SR p r q := fun q hq => by
  obtain ⟨s, r, -, h2, -, h4, -⟩ := hb.road hv hn hq
  exact ⟨s, r, h2, h4⟩
 have hne := hv.ne
 refine ⟨⟨hb.len, fun q hq => ?_, fun q hq => ?_⟩, ⟨fun q hq t ht => ?_, fun q hq e he => ?_⟩⟩
 .obtain ⟨s, r, h2, f⟩ := key q hq
  obtain ⟨_, _, _, _, a1, a2, _⟩ := Ic (EO h2).1
  rw [f.steps]; exact ⟨a1, a2⟩
 .obtain ⟨s, r, h2, f⟩ := key q hq
  have := f.zone.len
  omega
 .obtain ⟨s, r, h2, f⟩ := key q hq
  rw [f.steps] at ht
  have := Fw (Xe h2 t ht)
  omega
 obtain ⟨s, r, h2, f⟩ := key q hq
 have := Fw (f.zone.rng e he)
 omega
theorem AAa (p : AK) : ∃ c b, GX p = some (c, b) /\ (b = true -> ∃ n, Bl p /\ Cl p = some (some n, 0) /\ Bb p n /\ c.plan = p /\ Jt p n c.roads) := by
 obtain ⟨b, h1, h2⟩ := Rp p
 unfold GX
 simp only [h1, Option.bind_some]
 cases b with
 | false => exact ⟨_, false, rfl, by simp⟩
 | true =>
  have hv := h2 rfl
  obtain ⟨n, hN, hn⟩ := YW p hv
  obtain ⟨c, e, e1, e2⟩ := Zd hv hN hn
  simp only [Bool.not_true, cond_false, e1, Option.bind_some]
  refine ⟨c, e == 0, rfl, fun h => ?_⟩
  have he : e = 0 := beq_iff_eq.1 h
  rcases e2 with ⟨_, g1, g2⟩ | h3
  .exact ⟨n, hv, hN, hn, g1, g2⟩
  omega
theorem AAb (p : AK) (d : Al) : ∃ c o b, H3 p d = some (c, o, b) /\ (b = true -> ∃ n, o = some n /\ ACS p d n c /\ PX p d) := by
 unfold H3
 obtain ⟨b0, f1, f2⟩ := Vo d
 simp only [f1, Option.bind_some]
 cases b0 with
 | false => exact ⟨_, none, false, rfl, by simp⟩
 | true =>
  have hd := f2 rfl
  obtain ⟨b1, h1, h2⟩ := Rp p
  simp only [Bool.not_true, cond_false, h1, Option.bind_some]
  cases b1 with
  | false => exact ⟨_, none, false, rfl, by simp⟩
  | true =>
   have hv := h2 rfl
   simp only [Bool.not_true, cond_false, Uu p hv.few hd, Option.bind_some]
   by_cases c0 : NQ p d = 0
   .obtain ⟨c, b, e1, e2⟩ := AAa p
    obtain ⟨n, hN, hn⟩ := YW p hv
    have hm : IZ p = some (some n) := by
     unfold IZ
     simp only [h1, hN, Option.bind_some, Bool.not_true, cond_false, Io, bne_self_eq_false]
    simp only [c0, bne_self_eq_false, cond_false, e1, hm, Option.bind_some, Io]
    refine ⟨c, some n, b, by cases b <;> rfl, fun hb => ?_⟩
    obtain ⟨m, g1, g2, g3, g4, g5⟩ := e2 hb
    rw [hN] at g2
    cases g2
    exact ⟨n, rfl, ⟨hv, hN, hn, Yb hv hN, g4, g5, hd⟩, Ya c0⟩
   have : (NQ p d != 0) = true := bne_iff_ne.2 c0
   rw [this]
   exact ⟨_, none, false, rfl, by simp⟩
end
end Go.E
/- Plain Lean: the laws WayLeads, WayRest, WayLonger answer true, for every argument. No condition. -/
namespace Go.E
open Go
section
variable {p : AK} {n : Ay}
def Uz (d : Al) (run leg : Int) : Option (DT × Cr) := (AY d.runs run).bind fun r => (AY r.legs leg).map fun x => (r, x)
theorem Yd (d : Al) (b : Bool) (run leg : Int) : ((bif (!b) then some true else bif decide (run < 0) then some true else bif decide ((d.runs.length : Int) <= run) then some true else bif decide (leg < 0) then some true else (AY d.runs run).bind fun y64 => some (decide ((y64.legs.length : Int) <= leg)) : Option (Bool))) = some (!(b && (Uz d run leg).isSome)) := by
 cases b with
 | false => rfl
 | true =>
  simp only [Bool.not_true, cond_false, Bool.true_and]
  unfold Uz
  by_cases h1 : run < 0
  .simp [h1, CB (.inl h1)]
  by_cases h2 : (d.runs.length : Int) <= run
  .simp [h1, h2, CB (.inr h2)]
  obtain ⟨r, hr⟩ := HG (l := d.runs) (n := run) (by omega) (by omega)
  by_cases h3 : leg < 0
  .simp [h1, h2, h3, hr, CB (.inl h3)]
  by_cases h4 : (r.legs.length : Int) <= leg
  .simp [h1, h2, h3, hr, h4, CB (.inr h4)]
  obtain ⟨x, hx⟩ := HG (l := r.legs) (n := leg) (by omega) (by omega)
  simp [h1, h2, h3, hr, h4, hx]
theorem Ye {d : Al} {run leg : Int} {r : DT} {x : Cr} (h : Uz d run leg = some (r, x)) : AY d.runs run = some r /\ AY r.legs leg = some x /\ H9 d run leg = some r /\ H9 d run (leg + 1) = some r /\ 0 <= leg /\ leg < r.legs.length := by
 unfold Uz at h
 obtain ⟨q, h1, h2⟩ := Option.bind_eq_some_iff.1 h
 obtain ⟨y, h3, h4⟩ := Option.map_eq_some_iff.1 h2
 cases h4
 have := Kz h3
 refine ⟨h1, h3, ?_, ?_, this.1, this.2⟩
 .unfold H9; rw [h1]; simp only [Option.bind_some]; rw [if_pos ⟨this.1, by omega⟩]
 unfold H9; rw [h1]; simp only [Option.bind_some]; rw [if_pos ⟨by omega, by omega⟩]
theorem U0 (p : AK) (d : Al) (run leg : Int) : II p d run leg = some true := by
 unfold II
 obtain ⟨c, o, b, h1, h2⟩ := AAb p d
 simp only [AAT, Option.bind_some, Bool.not_true, cond_false, h1, Yd]
 cases b with
 | false => cases o <;> rfl
 | true =>
  obtain ⟨n, rfl, a, hk⟩ := h2 rfl
  obtain ⟨hl, he⟩ := Vt a.hv a.hn a.built
  simp only [Io, Bool.true_and]
  cases hq : Uz d run leg with
  | none => rfl
  | some rx =>
   obtain ⟨r, x⟩ := rx
   obtain ⟨g1, g2, g3, g4, g5, g6⟩ := Ye hq
   have hL := (a.hd.legs _ r (FY g1).1).1
   obtain ⟨k, rfl⟩ := Int.eq_ofNat_of_zero_le g5
   simp only [Option.isSome_some, Bool.not_true, cond_false, B1 (n := (k : Int) + 1) (by omega) (by omega), Uy a.hv a.hn a.hL a.hd hk hl he, Option.bind_some, g1, GN a.hn a.hd]
   have c1 : NS p c.roads d run (k : Int) = ⟨QR p (Be p d run (k : Int)), (List.range (r.legs.length - k)).map fun j => L8 p c.roads d run ((k + j : Nat) : Int)⟩ := by unfold NS; rw [g3]; rfl
   have c2 : NS p c.roads d run ((k : Int) + 1) = ⟨QR p (Be p d run ((k : Int) + 1)), (List.range (r.legs.length - (k + 1))).map fun j => L8 p c.roads d run ((k + 1 + j : Nat) : Int)⟩ := by unfold NS; rw [g4]; rfl
   rw [c1, c2]
   simp only [List.length_map, List.length_range]
   rw [B1 (n := (r.legs.length : Int) - (k : Int)) (by omega) (by omega), B1 (n := ((r.legs.length - k : Nat) : Int) - 1) (by omega) (by omega)]
   have b1 : (((r.legs.length - k : Nat) : Int) != (r.legs.length : Int) - (k : Int)) = false := by rw [bne_eq_false_iff_eq]; omega
   have b2 : (((r.legs.length - (k + 1) : Nat) : Int) != ((r.legs.length - k : Nat) : Int) - 1) = false := by rw [bne_eq_false_iff_eq]; omega
   have sl : Hv ((List.range (r.legs.length - k)).map fun j => L8 p c.roads d run ((k + j : Nat) : Int)) 1 ((r.legs.length - k : Nat) : Int) = some ((List.range (r.legs.length - (k + 1))).map fun j => L8 p c.roads d run ((k + 1 + j : Nat) : Int)) := by
    unfold Hv
    rw [if_pos ⟨by omega, by omega, by simp⟩]
    congr 1
    rw [Int.toNat_natCast, List.take_of_length_le (by simp), show r.legs.length - k = (r.legs.length - (k + 1)) + 1 by omega, List.range_succ_eq_map]
    simp only [List.map_cons, List.map_map]
    show (List.map _ _) = _
    refine List.map_congr_left fun j _ => ?_
    simp only [Function.comp]
    congr 1
    omega
   have ht : ((bif decide (0 <= Be p d run ((k : Int) + 1)) then (Fc p (Be p d run ((k : Int) + 1))).bind fun y187 => some (y187 != 4) else some false : Option (Bool))).bind (fun (t184 : Bool) => bif t184 then some [Be p d run ((k : Int) + 1)] else some ([] : List Int)) = some (QR p (Be p d run ((k : Int) + 1))) := by
    rw [PW]
    unfold QR
    rcases Ro a.hv hk run ((k : Int) + 1) with h | h | h
    .rw [h]
     have : Ae p (-1) = 0 := by unfold Ae; rw [CB (.inl (by omega))]; rfl
     simp [this]
    .have := Fw (p := p) (e := Be p d run ((k : Int) + 1)) (by omega)
     simp [h, this.1]
    have := Fw (p := p) (e := Be p d run ((k : Int) + 1)) (by omega)
    simp [h, this.1]
   simp only [b1, b2, cond_false, Option.bind_some, sl, ht]
   refine (congrArg (fun o : Option Bool => o.bind fun y => some y) (SQ ⟨QR p (Be p d run ((k : Int) + 1)), (List.range (r.legs.length - (k + 1))).map fun j => L8 p c.roads d run ((k + 1 + j : Nat) : Int)⟩ ?_ ?_ fun w hw => ?_)).trans rfl
   .simp only [QR]; split <;> simp
   .simp only [List.length_map, List.length_range]; omega
   obtain ⟨j, -, rfl⟩ := List.mem_map.1 hw
   have := Zc (p := p) c.roads (GO p c.roads d run ((k + 1 + j : Nat) : Int)) (Be p d run ((k + 1 + j : Nat) : Int))
   show (L7 _ _ _ _).length <= 1000
   omega
end
end Go.E
