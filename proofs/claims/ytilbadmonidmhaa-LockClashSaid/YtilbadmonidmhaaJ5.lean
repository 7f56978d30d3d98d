/- Plain Lean: the net that the program makes of a valid plan. No condition. -/
import Derived.KernelRfl
import Derived.Test.YtilbadmonidmhaaJ4
set_option linter.unusedVariables false
set_option linter.unusedSimpArgs false
namespace Go.E
open Go
structure Cj (p : AH) (n : CE) : Prop where
 plan : n.p = p
 next : ∀ x, AW n.next x = Ap p x
 reads : ∀ x, AW n.reads x = if 0 <= A0 p x then some (A0 p x) else none
theorem D5 {α : Type} [DecidableEq α] (l : List α) (h : l.length <= 1000000) : LF l (some []) ((BN ([] : List α) l).bind fun y => some y) = some l := by
 rw [BO (by simp; omega)]
 cases l with
 | nil => simp [LF, Rf]
 | cons a l => rfl
theorem T4 (p : AH) (hf : D6 p) : Jx p = some p := by
 have q1 := hf.elems; have q2 := hf.joins; have q3 := hf.signals; have q4 := hf.lines
 have c1 : HB p.elems = some p.elems := D5 _ (by omega)
 have c2 : HD p.joins = some p.joins := D5 _ (by omega)
 have c3 : Gc p.signals = some p.signals := D5 _ (by omega)
 have c4 : HE p.lines = some p.lines := D5 _ (by omega)
 unfold Jx
 simp only [c1, c2, c3, c4, Option.bind_some]
 obtain ⟨b, hb, rfl⟩ := B8 (l := p.lines) (step := HU p p.elems p.joins p.signals p.lines) (Post := fun b => b = p) (fun i c => c = p.lines) (fun c hc => by
   subst hc; exact ⟨p, by simp only [HU, B6, cond_false], rfl⟩) (fun i a c ha hc => by
   subst hc
   have := BZ ha
   have hal := (hf.line i a ha).1
   have c5 : CA a.elems = some a.elems := D5 _ (by omega)
   refine .inr ⟨p.lines, ?_, rfl⟩
   simp only [HU, Bd ha, cond_true, Ah, ha, Option.bind_some, c5, AT (show i < 1000000000 by omega)]
   have : KN p.lines (i : Int) (⟨a.name, a.elems⟩ : B5) = p.lines := by
    unfold KN
    apply List.ext_getElem?
    intro k
    rw [List.getElem?_set]
    split
    .rename_i h; simp only [Int.toNat_natCast] at h; subst h; split
     .exact ha.symm
     rename_i h2; simp at h2; omega
    rfl
   rw [this]) (c := p.lines) rfl
 exact hb
theorem Pi (x : AE) (s : A9) : ∀ (l : List A9) (i : Nat), Cc x i (l ++ [s]) = if 0 <= Cc x i l then Cc x i l else if s.at_ = x then ((i + l.length : Nat) : Int) else -1
 | [], i => by simp [Cc]
 | t :: l, i => by
  by_cases h : t.at_ = x
  .simp [Cc, h]
  have e : ∀ r, Cc x i (t :: r) = Cc x (i + 1) r := fun r => by simp [Cc, h]
  simp only [List.cons_append, e, Pi x s l (i + 1), List.length_cons]
  rw [show i + 1 + l.length = i + (l.length + 1) by omega]
theorem Vs (p y15 : AH) (hf : D6 p) (s58 : Int × List (AE × AE)) (s140 : Int × List (AE × Int)) : ∃ a b, AQ (Gd p y15 s58 s140) (0, [], []) = some (some ⟨y15, s58.2, s140.2, a, b⟩, 0) := by
 have q4 := hf.lines
 obtain ⟨r, hr, a, b, rfl⟩ : ∃ r, AQ (Gd p y15 s58 s140) (0, [], []) = some r /\ ∃ a b, r = (some ⟨y15, s58.2, s140.2, a, b⟩, 0) := by
  refine B8 (l := p.lines) (fun _ _ => True) (fun c _ => ⟨_, by simp only [Gd, B6, cond_false], c.1, c.2, rfl⟩) (fun i l c h _ => ?_) (c := (([], []) : List (Int × Fx) × List (Int × Int))) trivial
  have := BZ h
  have hal := (hf.line i l h).1
  obtain ⟨t, ht⟩ : ∃ t : Int, ((bif decide (1 < (l.elems.length : Int)) then (Ak l.elems 0).bind fun y1186 => ((bif (AW s58.2 (⟨y1186, 0⟩ : AE)).isSome then (Ak l.elems 1).bind fun y1195 => some ((((AW s58.2 (⟨y1186, 0⟩ : AE)).getD (⟨0, 0⟩ : AE)).elem) == y1195) else some false : Option (Bool))).bind fun (t1192 : Bool) => bif t1192 then some 1 else some 0 else some 0 : Option (Int))) = some t := by
   match hl : l.elems with
   | [] => exact ⟨0, by simp⟩
   | [a] => exact ⟨0, by simp⟩
   | a :: b :: r =>
    have hd : decide (1 < ((a :: b :: r).length : Int)) = true := by simp; omega
    have i0 : Ak (a :: b :: r) 0 = some a := rfl
    have i1 : Ak (a :: b :: r) 1 = some b := rfl
    simp only [hd, cond_true, i0, i1, Option.bind_some]
    cases (AW s58.2 (⟨a, 0⟩ : AE)).isSome with
    | false => exact ⟨0, rfl⟩
    | true =>
     simp only [cond_true, Option.bind_some]
     cases ((AW s58.2 (⟨a, 0⟩ : AE)).getD (⟨0, 0⟩ : AE)).elem == b with
     | false => exact ⟨0, rfl⟩
     | true => exact ⟨1, rfl⟩
  refine .inr ?_
  simp only [Gd, Bd h, cond_true, Ah, h, Option.bind_some, ht]
  obtain ⟨r, hr, c', rfl⟩ : ∃ r, AQ (IA s58 ((i : Int), c) l) (t, 0, c.1, c.2) = some r /\ ∃ c', r = .inl (((i + 1 : Nat) : Int), c') := by
   refine Dz (fun k s => s.2.1 = (k : Int) /\ k <= l.elems.length) l.elems.length ?_ ⟨rfl, Nat.zero_le _⟩
   rintro k ⟨x, j, d1, d2⟩ ⟨hj, hk⟩
   simp only at hj
   subst hj
   by_cases he : k = l.elems.length
   .subst he
    exact .inl ⟨.inl (((i + 1 : Nat) : Int), d1, d2), by simp only [IA, B6, cond_false, AT (show i < 1000000000 by omega)], (d1, d2), rfl⟩
   have ha : l.elems[k]? = some (l.elems[k]'(by omega)) := List.getElem?_eq_getElem _
   exact .inr ⟨by omega, (((AW s58.2 (⟨l.elems[k]'(by omega), AZ (1 - x)⟩ : AE)).getD (⟨0, 0⟩ : AE)).fin, ((k + 1 : Nat) : Int), Ay (l.elems[k]'(by omega)) (⟨(i : Int), (k : Int)⟩ : Fx) d1, Ay (l.elems[k]'(by omega)) x d2), by simp only [IA, Bd ha, cond_true, Ah, ha, Option.bind_some, AT (show k < 1000000000 by omega)], rfl, by omega⟩
  exact ⟨c', hr, trivial⟩
 exact ⟨a, b, hr⟩
theorem Yp (p : AH) (hv : B7 p) : ∃ n, Qu p = some (some n, 0) /\ Cj p n := by
 have q2 := hv.few.joins; have q3 := hv.few.signals
 unfold Qu
 simp only [RP p hv, Option.bind_some, bne_self_eq_false, cond_false, T4 p hv.few]
 have l2 : ∀ s58 : Int × List (AE × AE), (∀ x, AW s58.2 x = Ap p x) -> ∃ r, AQ (IB p p s58) (0, []) = some r /\ ∃ n, r = (some n, 0) /\ Cj p n := by
  intro s58 hs
  refine B8 (l := p.signals) (fun i c => ∀ x, AW c x = if 0 <= Cc x 0 (p.signals.take i) then some (Cc x 0 (p.signals.take i)) else none) (fun c hI => ?_) (fun i s c h hI => ?_) (c := []) (fun x => by simp [AW, Cc])
  .rw [List.take_length] at hI
   obtain ⟨a, b, hr⟩ := Vs p p hv.few s58 ((p.signals.length : Int), c)
   exact ⟨_, by simp only [IB, B6, cond_false, hr]; rfl, _, rfl, ⟨rfl, hs, hI⟩⟩
  have := BZ h
  refine .inr ⟨Ay s.at_ (i : Int) c, by simp only [IB, Bd h, cond_true, Ah, h, Option.bind_some, AT (show i < 1000000000 by omega)], fun x => ?_⟩
  have hlen : (p.signals.take i).length = i := by rw [List.length_take]; omega
  rw [Dv, List.take_add_one, h]
  simp only [Option.toList_some, Pi, hI, hlen]
  by_cases hx : x = s.at_
  .subst hx
   have hr := hv.sig.reads i s h
   have hnot : ¬ 0 <= Cc s.at_ 0 (p.signals.take i) := by
    intro h0
    rcases JD s.at_ (p.signals.take i) 0 with ⟨h1, _⟩ | ⟨k, t, h1, h2, _, _⟩
    .omega
    obtain ⟨j, hj, hjt⟩ := MT (List.mem_of_getElem? h1)
    have := hv.sig.reads j t hjt
    rw [h2, hr] at this
    omega
   rw [if_pos rfl, if_neg hnot, if_pos rfl, if_pos (by omega)]
   simp
  have hx' : ¬ s.at_ = x := fun e => hx e.symm
  by_cases h0 : 0 <= Cc x 0 (p.signals.take i)
  .simp only [if_neg hx, if_pos h0]
  simp only [if_neg hx, if_neg h0, if_neg hx']; rfl
 obtain ⟨r, hr, n, rfl, hn⟩ : ∃ r, AQ (IC p p) (0, []) = some r /\ ∃ n, r = (some n, 0) /\ Cj p n := by
  refine B8 (l := p.joins) (fun i c => ∀ x, AW c x = CW (p.joins.take i) x) (fun c hI => ?_) (fun i j c h hI => ?_) (c := []) (fun x => by simp [AW, CW])
  .rw [List.take_length] at hI
   obtain ⟨r, hr, h⟩ := l2 ((p.joins.length : Int), c) hI
   exact ⟨r, by simp only [IC, B6, cond_false, hr]; rfl, h⟩
  have := BZ h
  exact .inr ⟨_, by simp only [IC, Bd h, cond_true, Ah, h, Option.bind_some, AT (show i < 1000000000 by omega)], Qx hv.join h hI⟩
 exact ⟨n, hr, hn⟩
end Go.E
/- Plain Lean: sorted rows without repetition. No condition. -/
namespace Go.E
open Go
end Go.E
/- Plain Lean: what a net says is what the plan says. No condition. -/
namespace Go.E
open Go
theorem Ka (p : AH) (e : Int) : Ge p e = some (AY p e) := by
 unfold Ge; rw [DZ]; rfl
section
variable {p : AH} {n : CE}
theorem Wy (h : Cj p n) (e : Int) : Ir n e = some ((Ak p.elems e).getD ⟨ByteArray.empty, 0, 0⟩) := by
 unfold Ir
 rw [h.plan]
 by_cases h1 : e < 0
 .simp [h1, EX (.inl h1)]
 by_cases h2 : (p.elems.length : Int) <= e
 .simp [h1, h2, EX (.inr h2)]
 obtain ⟨a, ha⟩ := Nb (l := p.elems) (n := e) (by omega) (by omega)
 simp [h1, h2, ha]
theorem Oo (h : Cj p n) (e : Int) : Dy n e = some (AY p e) := by
 unfold Dy AY
 rw [Wy h]
 cases Ak p.elems e <;> rfl
theorem Oq (h : Cj p n) (x : AE) : Cg n x = some ((Ap p x).getD ⟨0, 0⟩, (Ap p x).isSome) := by
 unfold Cg; rw [h.next]
theorem Nc (p : AH) (x : AE) : A0 p x = -1 \/ (0 <= A0 p x /\ A0 p x < p.signals.length) := by
 rcases JD x p.signals 0 with ⟨h, _⟩ | ⟨k, s, h1, _, h3, _⟩
 .exact .inl h
 have := BZ h1
 right
 unfold A0
 rw [h3]; omega
theorem Vt (h : Cj p n) (x : AE) : IE n x = some (A0 p x) := by
 unfold IE
 rw [h.reads]
 rcases Nc p x with h1 | ⟨h1, _⟩
 .rw [if_neg (by omega), h1]; rfl
 rw [if_pos h1]; rfl
def Bm (p : AH) (e i : Int) : List Co :=
 if Ci p ⟨e, i⟩ then if AY p e = 1 then [⟨1 - i, 0⟩] else if AY p e = 3 then [⟨if i = 0 then 1 else if i = 1 then 0 else if i = 2 then 3 else 2, 0⟩] else if AY p e = 2 then if i = 0 then [⟨1, 1⟩, ⟨2, 2⟩] else [⟨0, i⟩] else [] else []
theorem Pj (p : AH) (e i : Int) : Hn p e i = some (Bm p e i) := by
 unfold Hn Bm
 simp only [HJ, Option.bind_some, DZ, DX]
 cases hh : Ci p ⟨e, i⟩ with
 | false => rfl
 | true =>
  obtain ⟨h1, h2, h3⟩ := Dg hh
  simp only at h1 h2 h3
  simp only [Bool.not_true, cond_false, if_true]
  by_cases k1 : AY p e = 1
  .simp only [if_pos k1, CQ (n := 1 - i) (by omega) (by omega)]
  by_cases k3 : AY p e = 3
  .simp only [if_neg k1, if_pos k3]
   have : i = 0 \/ i = 1 \/ i = 2 \/ i = 3 := by omega
   rcases this with rfl | rfl | rfl | rfl <;> rfl
  by_cases k2 : AY p e = 2
  .simp only [if_neg k1, if_neg k3, if_pos k2]
   by_cases i0 : i = 0 <;> simp [i0]
  simp only [if_neg k1, if_neg k3, if_neg k2]
theorem Wz (h : Cj p n) (e i : Int) : Is n e i = some (Bm p e i) := by
 unfold Is Bm
 simp only [Oo h, Option.bind_some, Lq, DX]
 by_cases h0 : i < 0
 .have : Ci p ⟨e, i⟩ = false := by simp [Ci]; omega
  simp [h0, this]
 by_cases h1 : Bw (AY p e) <= i
 .have : Ci p ⟨e, i⟩ = false := by simp [Ci]; omega
  simp [h0, h1, this]
 have hh : Ci p ⟨e, i⟩ = true := by simp [Ci]; omega
 obtain ⟨_, h2, h3⟩ := Dg hh
 simp only at h2 h3
 simp only [h0, h1, decide_false, cond_false, Option.bind_some, hh, if_true]
 by_cases k1 : AY p e = 1
 .simp only [if_pos k1, CQ (n := 1 - i) (by omega) (by omega)]
 by_cases k3 : AY p e = 3
 .simp only [if_neg k1, if_pos k3]
  have : i = 0 \/ i = 1 \/ i = 2 \/ i = 3 := by omega
  rcases this with rfl | rfl | rfl | rfl <;> rfl
 by_cases k2 : AY p e = 2
 .simp only [if_neg k1, if_neg k3, if_pos k2]
  rw [k2] at h3
  have : i = 0 \/ i = 1 \/ i = 2 := by simp [Bw] at h3; omega
  rcases this with rfl | rfl | rfl <;> rfl
 simp only [if_neg k1, if_neg k3, if_neg k2]
def CL : List Co -> Int -> Option Int
 | [], _ => none
 | w :: r, x => if w.pos = 0 \/ w.pos = x then some w.out else CL r x
def BC (p : AH) (e i x : Int) : Option Int := CL (Bm p e i) x
theorem Ky (p : AH) (e i : Int) : (Bm p e i).length <= 2 := by
 unfold Bm
 repeat' split
 all_goals simp
theorem TW (h : Cj p n) (e i x : Int) : Gx n e i x = some ((BC p e i x).getD 0, (BC p e i x).isSome) := by
 unfold Gx BC
 rw [Wz h]
 simp only [Option.bind_some]
 have hl := Ky p e i
 refine Jb (γ := Unit) (Bm p e i) (fun k _ => (k : Int)) (fun _ _ r => some ((CL r x).getD 0, (CL r x).isSome)) (fun _ => ?_) (fun k _ a r ha hi => ?_) ()
 .simp [FP, CL]
 simp only [FP, Ah, ha, Option.bind_some, Bd ha, cond_true, CL, DX]
 by_cases h1 : a.pos = 0
 .left; simp [h1]
 by_cases h2 : a.pos = x
 .left
  simp [h1, h2]
 right
 have : (a.pos == x) = false := beq_eq_false_iff_ne.2 h2
 exact ⟨(), by simp [h1, this, AT (show k < 1000000000 by omega)], by simp [h1, h2]⟩
end
end Go.E
/- Plain Lean: RoadFinds answers true, for every argument. No condition. -/
namespace Go.E
open Go
theorem W1 {a b : AO} : a = b ↔ a.frm = b.frm /\ a.to = b.to /\ a.fin = b.fin /\ a.steps = b.steps /\ a.needs = b.needs /\ a.guards = b.guards /\ a.zone = b.zone /\ a.holds = b.holds /\ a.bare = b.bare := by
 cases a; cases b; simp
theorem W2 {r : AO} (hl : r.steps.length < 1000000) {step : Int × List Int -> Option ((Int × List Int) ⊕ List Int)}
  (h : ∀ (i : Int) (o : List Int), step (i, o) = bif decide (i < (r.steps.length : Int)) then (Ak r.steps i).bind fun y => (BN o [y.elem]).bind fun z => some (.inl (AZ (i + 1), z)) else some (.inr o)) : AQ step (0, []) = some (r.steps.map (·.elem)) := by
 obtain ⟨b, h1, h2⟩ := B8 (l := r.steps) (step := step) (Post := fun b => b = r.steps.map (·.elem)) (fun i o => o = (r.steps.take i).map (·.elem)) (c := [])
  (fun c hc => ⟨c, by rw [h]; simp [B6], by rw [hc, List.take_length]⟩)
  (fun i a c ha hc => by
   have := BZ ha
   have hlen : c.length <= i := by rw [hc]; simp; omega
   refine .inr ⟨c ++ [a.elem], ?_, by rw [hc, EE ha]⟩
   rw [h]
   simp only [Bd ha, cond_true, Ah, ha, Option.bind_some]
   rw [BO (by simp; omega)]
   simp only [Option.bind_some, AT (show i < 1000000000 by omega)])
  (by simp)
 rw [h1, h2]
theorem Nd (r : AO) (hl : r.steps.length < 1000000) : Dt r = some (r.steps.map (·.elem)) := W2 hl fun _ _ => rfl
end Go.E
/- Plain Lean: the roads of a signal: the document's search and the program's are one. No condition. -/
namespace Go.E
open Go
def Hp (s to fin : Int) (st : List Ao) (nd : List AM) : AO := ⟨s, to, fin, st, nd, [], [], [], false⟩
def FX (nd : List AM) (e pos : Int) : List AM := if pos = 0 then nd else nd ++ [⟨e, pos⟩]
def Mq (p : AH) (s : Int) : Nat -> List Ao -> List AM -> AE -> List Int -> List AO
 | 0, _, _, _, _ => []
 | k + 1, st, nd, x, met => if x.elem ∈ met \/ st.length = 12 then [] else if AY p x.elem = 4 then [Hp s (-1) 2 (st ++ [⟨x.elem, x.fin, -1⟩]) nd] else
  (Bm p x.elem x.fin).flatMap fun w => if 0 <= A0 p ⟨x.elem, w.out⟩ then [Hp s (A0 p ⟨x.elem, w.out⟩) 1 (st ++ [⟨x.elem, x.fin, w.out⟩]) (FX nd x.elem w.pos)] else match Ap p ⟨x.elem, w.out⟩ with
   | none => [Hp s (-1) 3 (st ++ [⟨x.elem, x.fin, w.out⟩]) (FX nd x.elem w.pos)]
   | some y => Mq p s k (st ++ [⟨x.elem, x.fin, w.out⟩]) (FX nd x.elem w.pos) y (met ++ [x.elem])
def Hf (p : AH) (s : Int) (k : Nat) (st : List Ao) (nd : List AM) (x : AE) (met : List Int) (w : Co) : List AO :=
 if 0 <= A0 p ⟨x.elem, w.out⟩ then [Hp s (A0 p ⟨x.elem, w.out⟩) 1 (st ++ [⟨x.elem, x.fin, w.out⟩]) (FX nd x.elem w.pos)] else match Ap p ⟨x.elem, w.out⟩ with
  | none => [Hp s (-1) 3 (st ++ [⟨x.elem, x.fin, w.out⟩]) (FX nd x.elem w.pos)]
  | some y => Mq p s k (st ++ [⟨x.elem, x.fin, w.out⟩]) (FX nd x.elem w.pos) y (met ++ [x.elem])
theorem MV (p : AH) (s : Int) (k : Nat) (st : List Ao) (nd : List AM) (x : AE) (met : List Int) :
  Mq p s (k + 1) st nd x met = if x.elem ∈ met \/ st.length = 12 then [] else if AY p x.elem = 4 then [Hp s (-1) 2 (st ++ [⟨x.elem, x.fin, -1⟩]) nd] else (Bm p x.elem x.fin).flatMap (Hf p s k st nd x met) := rfl
theorem Sl (p : AH) (s : Int) (k : Nat) (st : List Ao) (nd : List AM) (x : AE) (met : List Int) (w : Co) (ih : ∀ st nd x met, (Mq p s k st nd x met).length <= 2 ^ k) : (Hf p s k st nd x met w).length <= 2 ^ k := by
 have h1 : 1 <= 2 ^ k := Nat.one_le_two_pow
 unfold Hf
 split
 .simp; omega
 split
 .simp; omega
 exact ih _ _ _ _
theorem Jd {α β : Type} (f : α -> List β) (b : Nat) : ∀ l : List α, (∀ a ∈ l, (f a).length <= b) -> (l.flatMap f).length <= l.length * b
 | [], _ => by simp
 | a :: l, h => by
  have h1 := h a (by simp)
  have h2 := Jd f b l fun x hx => h x (by simp [hx])
  simp only [List.flatMap_cons, List.length_append, List.length_cons, Nat.add_mul]
  omega
theorem QS (p : AH) (s : Int) : ∀ (k : Nat) (st : List Ao) (nd : List AM) (x : AE) (met : List Int), (Mq p s k st nd x met).length <= 2 ^ k
 | 0, _, _, _, _ => by simp [Mq]
 | k + 1, st, nd, x, met => by
  have h1 : 1 <= 2 ^ (k + 1) := Nat.one_le_two_pow
  rw [MV]
  split
  .simp
  split
  .simp; omega
  have h2 := Jd (Hf p s k st nd x met) (2 ^ k) (Bm p x.elem x.fin) fun w _ => Sl p s k st nd x met w (QS p s k)
  have h3 := Ky p x.elem x.fin
  have h4 : (Bm p x.elem x.fin).length * 2 ^ k <= 2 * 2 ^ k := Nat.mul_le_mul_right _ h3
  rw [Nat.pow_succ]; omega
theorem Pm (l : List Int) (hl : l.length < 1000000) (x : Int) : DL l x = some (decide (x ∈ l)) := by
 unfold DL
 obtain ⟨b, h1, h2⟩ := Bg (l := l) (step := EI l x) (Post := fun b => b = decide (x ∈ l)) (fun _ y => y ≠ x) (fun good => ⟨false, by simp [EI], by
   symm; rw [decide_eq_false_iff_not]; intro hm
   obtain ⟨i, hi⟩ := List.getElem?_of_mem hm
   exact good i x hi rfl⟩) (fun i a ha _ => by
   have := BZ ha
   by_cases e : a = x
   .exact .inl ⟨true, by simp only [EI, Bd ha, cond_true, Ah, ha, Option.bind_some, e, beq_self_eq_true], by symm; rw [decide_eq_true_iff]; subst e; exact List.mem_of_getElem? ha⟩
   have : (a == x) = false := beq_eq_false_iff_ne.2 e
   exact .inr ⟨by simp only [EI, Bd ha, cond_true, Ah, ha, Option.bind_some, this, cond_false, AT (show i < 1000000000 by omega)], e⟩)
 rw [h1, h2]
theorem N8 (r : AO) (s : Ao) (pos fin to : Int) (h1 : r.steps.length <= 100) (h2 : r.needs.length <= 100) : EM r s pos fin to = some (Hp r.frm to fin (r.steps ++ [s]) (FX r.needs s.elem pos)) := by
 unfold EM
 rw [BO (by simp; omega)]
 simp only [Option.bind_some, List.nil_append]
 rw [BO (by simp; omega)]
 simp only [Option.bind_some]
 rw [BO (by simp; omega)]
 simp only [Option.bind_some, List.nil_append, Na]
 unfold FX Hp
 by_cases e : pos = 0
 .simp [e]
 simp only [if_neg e]
 rw [BO (by simp; omega)]
 simp
theorem Sn (nd : List AM) (e pos : Int) : (FX nd e pos).length <= nd.length + 1 := by
 unfold FX; split <;> simp
noncomputable def Xa (m : Nat) : AH × AO × AE × List Int -> Option (List AO) := NV (fun rc a => FO rc a.1 a.2.1 a.2.2.1 a.2.2.2) m
theorem Xb {p : AH} (hf : D6 p) (s : Int) : ∀ (k m : Nat) (to fin : Int) (st : List Ao) (nd : List AM) (x : AE) (met : List Int), k <= m -> st.length + k = 13 -> nd.length <= st.length -> met.length <= st.length + 1 -> 1 <= k ->
  Xa m (p, (⟨s, to, fin, st, nd, [], [], [], false⟩ : AO), x, met) = some (Mq p s k st nd x met)
 | 0, _, _, _, _, _, _, _, _, _, _, _, h => by omega
 | k + 1, 0, _, _, _, _, _, _, h, _, _, _, _ => by omega
 | k + 1, m + 1, to, fin, st, nd, x, met, hkm, hst, hnd, hmet, _ => by
  have hpow : 2 ^ k <= 2 ^ 12 := Nat.pow_le_pow_right (by decide) (by omega)
  show FO (Xa m) p ⟨s, to, fin, st, nd, [], [], [], false⟩ x met = _
  unfold FO
  rw [Pm met (by omega) x.elem, MV]
  simp only [Option.bind_some]
  by_cases hm : x.elem ∈ met
  .simp [hm]
  simp only [hm, decide_false, cond_false, false_or, Option.bind_some]
  by_cases hl : st.length = 12
  .have : (((st.length : Nat) : Int) == 12) = true := by rw [beq_iff_eq]; omega
   simp only [this, cond_true, if_pos hl]
  have : (((st.length : Nat) : Int) == 12) = false := by rw [beq_eq_false_iff_ne]; omega
  simp only [this, cond_false, if_neg hl]
  rw [BO (by simp; omega)]
  simp only [Option.bind_some, List.nil_append]
  rw [BO (by simp; omega)]
  simp only [Option.bind_some, Ka, DX]
  by_cases hk : AY p x.elem = 4
  .simp only [if_pos hk, N8 (⟨s, to, fin, st, nd, [], [], [], false⟩ : AO) ⟨x.elem, x.fin, -1⟩ 0 2 (-1) (by simp only; omega) (by simp only; omega), Option.bind_some, FX, if_true]
  simp only [if_neg hk, Pj, Option.bind_some]
  have hol := Ky p x.elem x.fin
  have wl : ∀ w, (Hf p s k st nd x met w).length <= 2 ^ k := fun w => Sl p s k st nd x met w (QS p s k)
  obtain ⟨b, h1, h2⟩ := B8 (l := Bm p x.elem x.fin) (step := Fo p ⟨s, to, fin, st, nd, [], [], [], false⟩ x (Xa m) (met ++ [x.elem]) (Bm p x.elem x.fin))
   (Post := fun b => b = (Bm p x.elem x.fin).flatMap (Hf p s k st nd x met)) (fun i o => o = ((Bm p x.elem x.fin).take i).flatMap (Hf p s k st nd x met)) (c := [])
   (fun o ho => ⟨o, by simp [Fo], by rw [ho, List.take_length]⟩)
   (fun i w o hw ho => by
    have hi := BZ hw
    have hol2 : o.length <= 2 * 2 ^ k := by
     rw [ho]
     have h5 := Jd (Hf p s k st nd x met) (2 ^ k) ((Bm p x.elem x.fin).take i) fun w _ => wl w
     have h6 : ((Bm p x.elem x.fin).take i).length * 2 ^ k <= 2 * 2 ^ k := Nat.mul_le_mul_right _ (by rw [List.length_take]; omega)
     omega
    have hw2 := wl w
    refine .inr ⟨o ++ Hf p s k st nd x met w, ?_, by rw [ho, List.take_add_one, hw]; simp⟩
    have hb : o.length + (Hf p s k st nd x met w).length <= 4294967296 := by omega
    simp only [Fo, Bd hw, cond_true, Ah, hw, Option.bind_some, HX p (show p.signals.length < 1000000 by have := hf.signals; omega)]
    unfold Hf at hb ⊢
    by_cases hr : 0 <= A0 p ⟨x.elem, w.out⟩
    .rw [if_pos hr] at hb ⊢
     simp only [hr, decide_true, cond_true, N8 (⟨s, to, fin, st, nd, [], [], [], false⟩ : AO) ⟨x.elem, x.fin, w.out⟩ w.pos 1 (A0 p ⟨x.elem, w.out⟩) (by simp only; omega) (by simp only; omega), Option.bind_some]
     rw [BO hb]
     simp only [Option.bind_some, AT (show i < 1000000000 by omega)]
    rw [if_neg hr] at hb ⊢
    simp only [hr, decide_false, cond_false, CK p (by have := hf.joins; omega), Option.bind_some]
    cases hnx : Ap p ⟨x.elem, w.out⟩ with
    | none =>
     rw [hnx] at hb
     simp only [Option.isSome_none, Bool.not_false, cond_true, N8 (⟨s, to, fin, st, nd, [], [], [], false⟩ : AO) ⟨x.elem, x.fin, w.out⟩ w.pos 3 (-1) (by simp only; omega) (by simp only; omega), Option.bind_some]
     rw [BO hb]
     simp only [Option.bind_some, AT (show i < 1000000000 by omega)]
    | some y =>
     rw [hnx] at hb
     simp only at hb
     have hal := Sn nd x.elem w.pos
     have hrec := Xb hf s k m (-1) 0 (st ++ [⟨x.elem, x.fin, w.out⟩]) (FX nd x.elem w.pos) y (met ++ [x.elem]) (by omega) (by simp; omega) (by simp; omega) (by simp; omega) (by omega)
     simp only [Option.isSome_some, Option.getD_some, Bool.not_true, cond_false, N8 (⟨s, to, fin, st, nd, [], [], [], false⟩ : AO) ⟨x.elem, x.fin, w.out⟩ w.pos 0 (-1) (by simp only; omega) (by simp only; omega), Option.bind_some]
     unfold Hp
     rw [hrec]
     simp only [Option.bind_some]
     rw [BO hb]
     simp only [Option.bind_some, AT (show i < 1000000000 by omega)])
   (by simp)
  rw [show (0 : Int) = ((0 : Nat) : Int) from rfl] at *
  rw [h1, h2]
def EY (p : AH) (s : Int) : List AO := match Ak p.signals s with
 | none => []
 | some a => match Ap p a.at_ with
  | none => []
  | some y => Mq p s 13 [] [] y [a.at_.elem]
theorem ZX (p : AH) (s : Int) : Lk p s = some (match Ak p.signals s with | none => (⟨0, 0⟩, false) | some a => (a.at_, true)) := by
 unfold Lk
 by_cases h1 : s < 0
 .simp [h1, EX (.inl h1)]
 by_cases h2 : (p.signals.length : Int) <= s
 .simp [h1, h2, EX (.inr h2)]
 obtain ⟨a, ha⟩ := Nb (l := p.signals) (n := s) (by omega) (by omega)
 simp [h1, h2, ha]
theorem Xc {p : AH} (hf : D6 p) (s : Int) : KT p s = some (EY p s) := by
 unfold KT EY
 rw [ZX]
 cases Ak p.signals s with
 | none => rfl
 | some a =>
  simp only [Option.bind_some, Bool.not_true, cond_false, CK p (by have := hf.joins; omega)]
  cases Ap p a.at_ with
  | none => rfl
  | some y =>
   have := Xb hf s 13 1000 0 0 [] [] y [a.at_.elem] (by omega) rfl (by simp) (by simp) (by omega)
   simp only [Option.isSome_some, Option.getD_some, Bool.not_true, cond_false]
   show (Xa 1000 _).bind _ = _
   rw [this]; rfl
end Go.E
/- Plain Lean: the program's search for roads gives what the document's does. No condition. -/
namespace Go.E
open Go
section
variable {p : AH} {n : CE}
theorem X3 {α : Type} (l : List α) (x : α) (hl : l.length < 1000000) : AZ (((l ++ [x]).length : Int) - 1) = (l.length : Int) := by
 have : (((l ++ [x]).length : Int) - 1) = (l.length : Int) := by simp
 rw [this, CQ] <;> omega
theorem Yr {α : Type} {l : List α} {m : Nat} (x : α) (h : l.length = m) : Ak (l ++ [x]) (m : Int) = some x := by
 rw [Ah]; subst h; simp
theorem X4 {α : Type} {l : List α} (h : l ≠ []) (a b : Int) : Ye l a b = YS l a b := by
 cases l with
 | nil => exact absurd rfl h
 | cons x l => rfl
theorem Ys {α : Type} {l : List α} {m : Nat} (x : α) (h : l.length = m) : Ye (l ++ [x]) 0 (m : Int) = some l := by
 subst h
 rw [X4 (by simp)]
 unfold YS
 rw [if_pos ⟨by omega, by omega, by simp; omega⟩]; simp
end
end Go.E
/- Plain Lean: whether something is a road: the program's answer and the document's are one. No condition. -/
namespace Go.E
open Go
theorem MW {α : Type} {l : List α} {f : α -> Bool} (hl : l.length < 1000000) {step : Int -> Option (Int ⊕ Int)}
  (h0 : step (l.length : Int) = some (.inr (-1))) (h : ∀ (i : Nat) a, l[i]? = some a -> step (i : Int) = if f a = true then some (.inr (i : Int)) else some (.inl ((i + 1 : Nat) : Int))) :
  ∃ t, AQ step 0 = some t /\ ((t = -1 /\ l.find? f = none) \/ ∃ a, 0 <= t /\ l.find? f = some a /\ Ak l t = some a) := by
 have key : ∀ (r : List α) (i : Nat), l.drop i = r -> i <= l.length -> ∃ t, AQ step (i : Int) = some t /\ ((t = -1 /\ r.find? f = none) \/ ∃ a, 0 <= t /\ r.find? f = some a /\ Ak l t = some a) := by
  intro r
  induction r with
  | nil =>
   intro i hd hi
   have : i = l.length := by have := congrArg List.length hd; simp at this; omega
   subst this
   exact ⟨-1, DY h0, .inl ⟨rfl, rfl⟩⟩
  | cons a r ih =>
   intro i hd hi
   have hlt : i < l.length := by have := congrArg List.length hd; simp at this; omega
   have ha : l[i]? = some a := by
    have : (l.drop i)[0]? = some a := by rw [hd]; rfl
    simpa using this
   have hr : l.drop (i + 1) = r := by
    have : (l.drop i).drop 1 = r := by rw [hd]; rfl
    rwa [List.drop_drop] at this
   by_cases c : f a = true
   .exact ⟨i, DY (by rw [h i a ha, if_pos c]), .inr ⟨a, by omega, by simp [c], by rw [Ah, ha]⟩⟩
   obtain ⟨t, h1, h2⟩ := ih (i + 1) hr (by omega)
   refine ⟨t, by rw [CT (by rw [h i a ha, if_neg c]), h1], ?_⟩
   simpa [List.find?_cons, c] using h2
 exact key l 0 rfl (Nat.zero_le _)
def QT (l : List Co) (o : Int) : Option Co := l.find? fun w => w.out == o
def CP (p : AH) (a : Int) : Option AE -> List Ao -> List AM -> List Ao -> Option (List AM)
 | _, _, nd, [] => some nd
 | none, _, _, _ :: _ => none
 | some x, pv, nd, s :: r => if s.elem ≠ x.elem \/ s.in_ ≠ x.fin \/ s.elem = a \/ s.elem ∈ pv.map (·.elem) then none else if AY p s.elem = 4 then (if r = [] /\ s.out = -1 then some nd else none) else match QT (Bm p s.elem s.in_) s.out with
  | none => none
  | some w => if r ≠ [] /\ 0 <= A0 p ⟨s.elem, s.out⟩ then none else CP p a (Ap p ⟨s.elem, s.out⟩) (pv ++ [s]) (FX nd s.elem w.pos) r
def MX (p : AH) (fin to : Int) (l : Ao) : Bool :=
 if AY p l.elem = 4 then decide (fin = 2 /\ to = -1) else if 0 <= A0 p ⟨l.elem, l.out⟩ then decide (fin = 1 /\ to = A0 p ⟨l.elem, l.out⟩) else (Ap p ⟨l.elem, l.out⟩).isNone && decide (fin = 3 /\ to = -1)
def T5 (p : AH) (r : AO) : Bool := match Ak p.signals r.frm with
 | none => false
 | some sg => if r.steps.length < 1 \/ 12 < r.steps.length then false else match CP p sg.at_.elem (Ap p sg.at_) [] [] r.steps with
  | none => false
  | some nd => match r.steps.getLast? with
   | none => false
   | some l => MX p r.fin r.to l && decide (r.needs = nd)
theorem Pn {p : AH} {a : Int} : ∀ {r : List Ao} {x : Option AE} {pv : List Ao} {nd nd' : List AM}, CP p a x pv nd r = some nd' -> nd'.length <= nd.length + r.length
 | [], x, pv, nd, nd', h => by
  have : nd = nd' := by cases x <;> simpa [CP] using h
  subst this; simp
 | s :: r, none, pv, nd, nd', h => by simp [CP] at h
 | s :: r, some x, pv, nd, nd', h => by
  unfold CP at h
  split at h
  .cases h
  split at h
  .split at h
   .cases h; simp
   cases h
  split at h
  .cases h
  split at h
  .cases h
  have h1 := Pn h
  rename_i w _ _
  have h2 := Sn nd s.elem w.pos
  simp only [List.length_cons]; omega
section
variable {p : AH} {n : CE}
end
end Go.E
/- Plain Lean: whether something is a road, as the document says; the roads of a signal are roads, and none is told twice. No condition. -/
namespace Go.E
open Go
theorem Qy (p : AH) (e i : Int) : (Bm p e i).Pairwise (fun a b => a.out ≠ b.out) := by
 unfold Bm
 repeat' split
 all_goals simp
theorem Je {p : AH} {e i : Int} {w : Co} (h : w ∈ Bm p e i) : 0 <= w.out /\ w.out < Bw (AY p e) /\ 0 <= i /\ i < Bw (AY p e) /\ AY p e ≠ 4 /\ (w.pos ≠ 0 -> AY p e = 2 /\ (w.pos = 1 \/ w.pos = 2)) := by
 unfold Bm at h
 cases hh : Ci p ⟨e, i⟩ with
 | false => rw [hh] at h; simp at h
 | true =>
  obtain ⟨h1, h2, h3⟩ := Dg hh
  simp only at h1 h2 h3
  rw [hh] at h
  simp only [if_true] at h
  by_cases k1 : AY p e = 1
  .rw [k1] at h h3 ⊢
   simp [Bw] at h h3 ⊢
   subst h
   simp; omega
  by_cases k3 : AY p e = 3
  .rw [k3] at h h3 ⊢
   simp [Bw] at h h3 ⊢
   subst h
   simp
   split
   .omega
   split
   .omega
   split <;> omega
  by_cases k2 : AY p e = 2
  .rw [k2] at h h3 ⊢
   simp [Bw] at h h3 ⊢
   by_cases i0 : i = 0
   .subst i0
    simp at h
    rcases h with rfl | rfl <;> simp
   rw [if_neg i0] at h
   simp at h
   subst h
   simp; omega
  rw [if_neg k1, if_neg k3, if_neg k2] at h; simp at h
theorem Qz {l : List Co} {o : Int} {w : Co} (h : QT l o = some w) : w ∈ l /\ w.out = o := by
 refine ⟨List.mem_of_find?_eq_some h, ?_⟩
 have := List.find?_some h
 simpa using this
theorem So : ∀ {l : List Co} {w : Co}, l.Pairwise (fun a b => a.out ≠ b.out) -> w ∈ l -> QT l w.out = some w
 | a :: l, w, hp, hm => by
  rw [List.pairwise_cons] at hp
  unfold QT
  rw [List.find?_cons]
  rcases List.mem_cons.1 hm with rfl | hm
  .simp
  have := hp.1 w hm
  have e : (a.out == w.out) = false := beq_eq_false_iff_ne.2 this
  simp only [e]
  exact So hp.2 hm
section
variable {p : AH} {n : CE}
structure Z0 (p : AH) (a s : Int) (x : AE) (st : List Ao) (nd : List AM) (r : AO) (t : List Ao) : Prop where
 frm : r.frm = s
 guards : r.guards = []
 zone : r.zone = []
 holds : r.holds = []
 bare : r.bare = false
 steps : r.steps = st ++ t
 ne : t ≠ []
 len : r.steps.length <= 12
 all : CP p a (some x) st nd t = some r.needs
 tail : ∀ l, t.getLast? = some l -> MX p r.fin r.to l = true
theorem Ot (s a : Int) : ∀ (k : Nat) (st : List Ao) (nd : List AM) (x : AE) (r : AO), st.length + k = 13 -> r ∈ Mq p s k st nd x (a :: st.map (·.elem)) -> ∃ t, Z0 p a s x st nd r t /\ ∃ u t', t = u :: t' /\ u.elem = x.elem /\ u.in_ = x.fin
 | 0, st, nd, x, r, hk, hr => by simp [Mq] at hr
 | k + 1, st, nd, x, r, hk, hr => by
  rw [MV] at hr
  by_cases hm : x.elem ∈ a :: st.map (·.elem) \/ st.length = 12
  .rw [if_pos hm] at hr; simp at hr
  rw [if_neg hm] at hr
  have hm1 : x.elem ∉ a :: st.map (·.elem) := fun h => hm (.inl h)
  have hm2 : ¬ (x.elem ≠ x.elem \/ x.fin ≠ x.fin \/ x.elem = a \/ x.elem ∈ st.map (·.elem)) := by
   rintro (h1 | h1 | h1 | h1)
   .exact h1 rfl
   .exact h1 rfl
   .exact hm1 (by rw [h1]; simp)
   exact hm1 (List.mem_cons_of_mem _ h1)
  have hlen : st.length < 12 := by
   have : st.length ≠ 12 := fun h => hm (.inr h)
   omega
  by_cases k4 : AY p x.elem = 4
  .rw [if_pos k4] at hr
   simp at hr
   subst hr
   refine ⟨[⟨x.elem, x.fin, -1⟩], ⟨rfl, rfl, rfl, rfl, rfl, rfl, by simp, by simp [Hp]; omega, ?_, ?_⟩, _, _, rfl, rfl, rfl⟩
   .simp only [CP, if_neg hm2, if_pos k4, Hp, true_and, if_true]
   intro l hl
   simp at hl
   subst hl
   simp [MX, k4, Hp]
  rw [if_neg k4] at hr
  obtain ⟨w, hw, hr⟩ := List.mem_flatMap.1 hr
  have hway := So (Qy p x.elem x.fin) hw
  unfold Hf at hr
  by_cases hrd : 0 <= A0 p ⟨x.elem, w.out⟩
  .rw [if_pos hrd] at hr
   simp at hr
   subst hr
   refine ⟨[⟨x.elem, x.fin, w.out⟩], ⟨rfl, rfl, rfl, rfl, rfl, rfl, by simp, by simp [Hp]; omega, ?_, ?_⟩, _, _, rfl, rfl, rfl⟩
   .unfold CP; rw [if_neg hm2, if_neg k4, hway]; simp [CP, Hp]
   intro l hl
   simp at hl
   subst hl
   simp [MX, k4, Hp, hrd]
  rw [if_neg hrd] at hr
  cases hnx : Ap p ⟨x.elem, w.out⟩ with
  | none =>
   rw [hnx] at hr
   simp at hr
   subst hr
   refine ⟨[⟨x.elem, x.fin, w.out⟩], ⟨rfl, rfl, rfl, rfl, rfl, rfl, by simp, by simp [Hp]; omega, ?_, ?_⟩, _, _, rfl, rfl, rfl⟩
   .unfold CP; rw [if_neg hm2, if_neg k4, hway]; simp [CP, Hp]
   intro l hl
   simp at hl
   subst hl
   simp [MX, k4, Hp, hrd, hnx]
  | some y =>
   rw [hnx] at hr
   have hmm : a :: st.map (·.elem) ++ [x.elem] = a :: (st ++ [(⟨x.elem, x.fin, w.out⟩ : Ao)]).map (·.elem) := by simp
   simp only at hr
   rw [hmm] at hr
   obtain ⟨t, ht, u, t', htu, -, -⟩ := Ot s a k (st ++ [⟨x.elem, x.fin, w.out⟩]) (FX nd x.elem w.pos) y r (by simp; omega) hr
   refine ⟨⟨x.elem, x.fin, w.out⟩ :: t, ⟨ht.frm, ht.guards, ht.zone, ht.holds, ht.bare, by rw [ht.steps]; simp, by simp, ht.len, ?_, ?_⟩, _, _, rfl, rfl, rfl⟩
   .unfold CP
    rw [if_neg hm2, if_neg k4, hway]
    dsimp only
    rw [if_neg (fun h => hrd h.2), hnx]
    exact ht.all
   intro l hl
   refine ht.tail l ?_
   rw [htu] at hl ⊢
   rwa [List.getLast?_cons_cons] at hl
theorem D7 {s : Int} {r : AO} (h : r ∈ EY p s) : T5 p r = true /\ r.frm = s /\ r.guards = [] /\ r.zone = [] /\ r.holds = [] /\ r.bare = false /\ r.steps.length <= 12 /\ 1 <= r.steps.length /\ r.needs.length <= 12 := by
 unfold EY at h
 cases hi : Ak p.signals s with
 | none => rw [hi] at h; simp at h
 | some sg =>
  rw [hi] at h
  simp only at h
  cases hx : Ap p sg.at_ with
  | none => rw [hx] at h; simp at h
  | some y =>
   rw [hx] at h
   simp only at h
   obtain ⟨t, ht, -⟩ := Ot s sg.at_.elem 13 [] [] y r rfl (by simpa using h)
   have hst : r.steps = t := by rw [ht.steps]; rfl
   have hlen : 1 <= r.steps.length := by
    rw [hst]
    exact List.length_pos_iff.2 ht.ne
   have hl2 := ht.len
   have hnl := Pn ht.all
   rw [<- hst] at hnl
   simp only [List.length_nil] at hnl
   refine ⟨?_, ht.frm, ht.guards, ht.zone, ht.holds, ht.bare, ht.len, hlen, by omega⟩
   unfold T5
   rw [ht.frm, hi]
   simp only
   rw [if_neg (by omega), hx, hst, ht.all]
   obtain ⟨l, hl⟩ : ∃ l, t.getLast? = some l := by
    rw [List.getLast?_eq_getElem?]
    rw [hst] at hlen
    exact ⟨_, List.getElem?_eq_getElem (by omega)⟩
   simp only [hl, ht.tail l hl, decide_true, Bool.and_true]
theorem Q0 (s a : Int) (k : Nat) (st : List Ao) (nd : List AM) (x : AE) (w : Co) (r : AO) (hk : st.length + (k + 1) = 13) (h : r ∈ Hf p s k st nd x (a :: st.map (·.elem)) w) : r.steps[st.length]? = some ⟨x.elem, x.fin, w.out⟩ := by
 unfold Hf at h
 split at h
 .simp at h; subst h; simp [Hp]
 split at h
 .simp at h; subst h; simp [Hp]
 rename_i y hy
 have hmm : a :: st.map (·.elem) ++ [x.elem] = a :: (st ++ [(⟨x.elem, x.fin, w.out⟩ : Ao)]).map (·.elem) := by simp
 rw [hmm] at h
 obtain ⟨t, ht, -⟩ := Ot s a k _ _ y r (by simp; omega) h
 rw [ht.steps]; simp
theorem Q1 (s a : Int) : ∀ (k : Nat) (st : List Ao) (nd : List AM) (x : AE), st.length + k = 13 -> (Mq p s k st nd x (a :: st.map (·.elem))).Nodup
 | 0, st, nd, x, hk => by simp [Mq]
 | k + 1, st, nd, x, hk => by
  rw [MV]
  split
  .simp
  split
  .simp
  unfold List.Nodup; rw [List.pairwise_flatMap]
  refine ⟨fun w hw => ?_, ?_⟩
  .unfold Hf
   split
   .simp
   split
   .simp
   rename_i y hy
   have hmm : a :: st.map (·.elem) ++ [x.elem] = a :: (st ++ [(⟨x.elem, x.fin, w.out⟩ : Ao)]).map (·.elem) := by simp
   rw [hmm]
   exact Q1 s a k _ _ y (by simp; omega)
  refine (Qy p x.elem x.fin).imp fun {w v} hwv => ?_
  rintro r hr1 r2 hr2 rfl
  have h1 := Q0 s a k st nd x w r (by omega) hr1
  have h2 := Q0 s a k st nd x v r (by omega) hr2
  rw [h1] at h2
  simp at h2
  exact hwv h2
theorem Vw (s : Int) : (EY p s).Nodup := by
 unfold EY
 split
 .simp
 split
 .simp
 rename_i sg _ _ y _
 have := Q1 (p := p) s sg.at_.elem 13 [] [] y rfl
 simpa using this
end
end Go.E
/- Plain Lean: RoadOfs, RoadAlls, RoadIsOne, RoadTurned and RoadEach answer true, for every argument. No condition. -/
namespace Go.E
open Go
theorem Zn {n : Int} (h : (Lit.int .u8 n).wf = true) : 0 <= n /\ n <= 255 /\ AZ n = n := by
 have : 0 <= n /\ n <= 255 := by simpa [Lit.wf, IntKind.min, IntKind.max, IntKind.signed, IntKind.bits] using h
 exact ⟨this.1, this.2, by rw [CQ] <;> omega⟩
section
variable {p : AH} {n : CE}
theorem X5 (s : Int) : (EY p s).length <= 2 ^ 13 := by
 unfold EY
 split
 .simp
 split
 .simp
 exact QS p s 13 _ _ _ _
def Hg (p : AH) (i : Nat) : List AO := (List.range i).flatMap fun (s : Nat) => EY p (s : Int)
def Kb (p : AH) : List AO := Hg p p.signals.length
theorem Nf (i : Nat) : Hg p (i + 1) = Hg p i ++ EY p (i : Int) := by
 unfold Hg
 rw [List.range_succ, List.flatMap_append]; simp
theorem W3 {i : Nat} {r : AO} (h : r ∈ Hg p i) : ∃ s : Int, r ∈ EY p s := by
 obtain ⟨s, _, hs⟩ := List.mem_flatMap.1 h
 exact ⟨_, hs⟩
theorem Q2 {i : Nat} : ∀ {j : Nat}, i <= j -> (Hg p i).length <= (Hg p j).length
  | 0, h => by have : i = 0 := by omega
               subst this; exact Nat.le_refl _
  | j + 1, h => by
    by_cases e : i = j + 1
    . subst e; exact Nat.le_refl _
    have := Q2 (i := i) (j := j) (by omega)
    rw [Nf, List.length_append]; omega
def C8 (p : AH) : List AO × Int := if 64 < (Kb p).length then ([], 3) else (Kb p, 0)
theorem Ur (hv : B7 p) : JX p = some (C8 p) := by
 have hs := hv.ns
 unfold JX
 obtain ⟨b, h1, h2⟩ := B8 (l := p.signals) (step := Eu p) (Post := fun b => b = C8 p) (fun i o => o = Hg p i /\ o.length <= 64) (c := [])
  (fun o ho => by
   refine ⟨C8 p, ?_, rfl⟩
   unfold C8 Kb
   rw [<- ho.1, if_neg (by omega)]
   simp [Eu])
  (fun i a o ha ho => by
   have hi := BZ ha
   have h2 := X5 (p := p) (i : Int)
   have hb : o.length + (EY p (i : Int)).length <= 4294967296 := by have := ho.2; omega
   have hlen : (o ++ EY p (i : Int)) = Hg p (i + 1) := by rw [Nf, ho.1]
   by_cases c : 64 < (o ++ EY p (i : Int)).length
   .refine .inl ⟨([], 3), ?_, ?_⟩
    .have d : decide (64 < ((o ++ EY p (i : Int)).length : Int)) = true := by simp only [decide_eq_true_eq]; omega
     simp only [Eu, Bd ha, cond_true, Xc hv.few, Option.bind_some, BO hb, d]
    unfold C8 Kb
    have := Q2 (p := p) (show i + 1 <= p.signals.length by omega)
    rw [hlen] at c
    rw [if_pos (by omega)]
   refine .inr ⟨o ++ EY p (i : Int), ?_, hlen, by omega⟩
   have d : decide (64 < ((o ++ EY p (i : Int)).length : Int)) = false := by simp only [decide_eq_false_iff_not]; omega
   simp only [Eu, Bd ha, cond_true, Xc hv.few, Option.bind_some, BO hb, d, cond_false, AT (show i < 1000000000 by omega)])
  ⟨by simp [Hg], by simp⟩
 rw [h1, h2]
theorem Sq {r : AO} (h : r ∈ (C8 p).1) : ∃ s : Int, r ∈ EY p s := by
 unfold C8 at h
 split at h
 .simp at h
 exact W3 h
end
end Go.E
/- Plain Lean: RoadRuns answers true, for every argument. No condition. -/
namespace Go.E
open Go
def W4 (pos : List Int) (e : Int) : Int := (Ak pos e).getD 0
section
variable {p : AH} {n : CE}
theorem Us (p : AH) (e i : Int) : Bm p e i = [] \/ (∃ w, Bm p e i = [w]) \/ Bm p e i = [⟨1, 1⟩, ⟨2, 2⟩] := by
 unfold Bm
 split
 .split
  .exact .inr (.inl ⟨_, rfl⟩)
  split
  .exact .inr (.inl ⟨_, rfl⟩)
  split
  .split
   .exact .inr (.inr rfl)
   exact .inr (.inl ⟨_, rfl⟩)
  exact .inl rfl
 exact .inl rfl
theorem J0 {e i x : Int} {w : Co} (hw : w ∈ Bm p e i) (hx : w.pos = 0 \/ w.pos = x) : BC p e i x = some w.out := by
 unfold BC
 rcases Us p e i with h | ⟨v, h⟩ | h
 .rw [h] at hw; simp at hw
 .rw [h] at hw ⊢
  simp at hw
  subst hw
  simp only [CL, if_pos hx]
 rw [h] at hw ⊢
 simp at hw
 rcases hw with rfl | rfl
 .simp only [CL, if_pos hx]
 have : x = 2 := by simp at hx; omega
 subst this
 simp [CL]
theorem Ng {e i x o : Int} (h : BC p e i x = some o) : ∃ w ∈ Bm p e i, w.out = o /\ (w.pos = 0 \/ w.pos = x) := by
 unfold BC at h
 have key : ∀ l : List Co, CL l x = some o -> ∃ w ∈ l, w.out = o /\ (w.pos = 0 \/ w.pos = x) := by
  intro l
  induction l with
  | nil => intro h; simp [CL] at h
  | cons w l ih =>
   intro h
   unfold CL at h
   split at h
   .rename_i hx
    exact ⟨w, by simp, by simpa using h, hx⟩
   obtain ⟨v, hv, h1⟩ := ih h
   exact ⟨v, by simp [hv], h1⟩
 exact key _ h
theorem Nh {a : Int} : ∀ {t : List Ao} {x : Option AE} {pv : List Ao} {nd nd' : List AM}, (∀ m ∈ nd, m.elem ∈ pv.map (·.elem) /\ AY p m.elem = 2 /\ (m.pos = 1 \/ m.pos = 2)) -> nd.Pairwise (fun a b => a.elem ≠ b.elem) -> CP p a x pv nd t = some nd' ->
  (∀ m ∈ nd', m.elem ∈ (pv ++ t).map (·.elem) /\ AY p m.elem = 2 /\ (m.pos = 1 \/ m.pos = 2)) /\ nd'.Pairwise (fun a b => a.elem ≠ b.elem) /\ ∀ m ∈ nd, m ∈ nd'
 | [], x, pv, nd, nd', h1, h2, h => by
  have : nd = nd' := by cases x <;> simpa [CP] using h
  subst this
  exact ⟨by simpa using h1, h2, fun m hm => hm⟩
 | s :: r, none, pv, nd, nd', h1, h2, h => by simp [CP] at h
 | s :: r, some x, pv, nd, nd', h1, h2, h => by
  unfold CP at h
  split at h
  .cases h
  rename_i hc
  split at h
  .split at h
   .cases h
    exact ⟨fun m hm => ⟨by have := (h1 m hm).1; simp at this ⊢; exact .inl this, (h1 m hm).2⟩, h2, fun m hm => hm⟩
   cases h
  cases hw : QT (Bm p s.elem s.in_) s.out with
  | none => rw [hw] at h; cases h
  | some w =>
   rw [hw] at h
   simp only at h
   split at h
   .cases h
   have hf := Je (Qz hw).1
   have hsub : ∀ m ∈ FX nd s.elem w.pos, m ∈ nd \/ (m = ⟨s.elem, w.pos⟩ /\ w.pos ≠ 0) := by
    intro m hm
    unfold FX at hm
    split at hm
    .exact .inl hm
    rename_i c
    rcases List.mem_append.1 hm with hm | hm
    .exact .inl hm
    exact .inr ⟨by simpa using hm, c⟩
   have hnot : s.elem ∉ pv.map (·.elem) := fun h => hc (.inr (.inr (.inr h)))
   obtain ⟨g1, g2, g3⟩ := Nh (nd := FX nd s.elem w.pos) (pv := pv ++ [s]) (fun m hm => by
    rcases hsub m hm with hm | ⟨rfl, hp⟩
    .exact ⟨by have := (h1 m hm).1; simp at this ⊢; exact .inl this, (h1 m hm).2⟩
    .exact ⟨by simp, hf.2.2.2.2.2 hp⟩) (by
    unfold FX
    split
    .exact h2
    rw [List.pairwise_append]
    refine ⟨h2, by simp, fun m hm q hq => ?_⟩
    simp at hq
    subst hq
    intro he
    simp only at he
    rw [<- he] at hnot
    exact hnot (h1 m hm).1) h
   refine ⟨fun m hm => ?_, g2, fun m hm => g3 m ?_⟩
   .have := g1 m hm
    simpa using this
   unfold FX
   split
   .exact hm
   exact List.mem_append.2 (.inl hm)
theorem J1 {e : Int} (h : AY p e ≠ 0) : 0 <= e /\ e < p.elems.length := by
 unfold AY at h
 cases hi : Ak p.elems e with
 | none => rw [hi] at h; simp at h
 | some a => exact QQ hi
theorem Hq {r : AO} (h : T5 p r = true) : ∃ sg nd l, Ak p.signals r.frm = some sg /\ 1 <= r.steps.length /\ r.steps.length <= 12 /\ CP p sg.at_.elem (Ap p sg.at_) [] [] r.steps = some nd /\ r.steps.getLast? = some l /\ MX p r.fin r.to l = true /\ r.needs = nd := by
 unfold T5 at h
 cases hi : Ak p.signals r.frm with
 | none => rw [hi] at h; cases h
 | some sg =>
  rw [hi] at h
  simp only at h
  split at h
  .cases h
  cases hs : CP p sg.at_.elem (Ap p sg.at_) [] [] r.steps with
  | none => rw [hs] at h; cases h
  | some nd =>
   rw [hs] at h
   cases hl : r.steps.getLast? with
   | none => rw [hl] at h; cases h
   | some l =>
    rw [hl] at h
    simp only [Bool.and_eq_true, decide_eq_true_eq] at h
    exact ⟨sg, nd, l, rfl, by omega, by omega, hs, rfl, h.1, h.2⟩
end
end Go.E
/- Plain Lean: RoadRuns answers true, for every argument. No condition. -/
namespace Go.E
open Go
section
variable {p : AH} {n : CE}
end
end Go.E
/- Plain Lean: RoadWhole answers true, for every argument. No condition. -/
namespace Go.E
open Go
section
variable {p : AH} {n : CE}
end
end Go.E
/- Reach hands the keys of a map out in whatever order and sorts them: what it answers has no order in it; the example that the laws of sides AF at. No condition. -/
namespace Go.E
open Go Go.Proofs
theorem ON {a b : List Int} (h : a.Perm b) : Gu a = Gu b :=
 List.Perm.eq_of_pairwise (le := fun a b : Int => a <= b) (fun a b _ _ h1 h2 => Int.le_antisymm h1 h2) (Jz a) (Jz b) ((IJ a).trans (h.trans (IJ b).symm))
theorem IK {α : Type} : ∀ {l : List α} {j : Nat} {y : α}, l[j]? = some y -> (y :: l.eraseIdx j).Perm l
 | x :: l, 0, y, h => by
  rw [List.getElem?_cons_zero] at h
  cases h
  rw [List.eraseIdx_cons_zero]
 | x :: l, j + 1, y, h => by
  rw [List.getElem?_cons_succ] at h
  rw [List.eraseIdx_cons_succ]
  exact (List.Perm.swap x y _).trans ((IK h).cons x)
set_option maxRecDepth 100000
end Go.E
/- Plain Lean: the ports on the sides of a road, and what is its own: the program's answer and the document's are one (laws SidePorts, SideOwns). No condition. -/
namespace Go.E
open Go
theorem W7 {l : List Ao} {e : Int} : decide (e ∈ l.map (·.elem)) = (l.find? fun s => s.elem == e).isSome := by
 induction l with
 | nil => simp
 | cons a l ih =>
  rw [List.find?_cons]
  by_cases c : a.elem = e
  .simp [c]
  have : (a.elem == e) = false := beq_eq_false_iff_ne.2 c
  rw [this]
  simp only [List.map_cons, List.mem_cons, Ne.symm c, false_or]
  exact ih
theorem Yt (r : AO) (hl : r.steps.length < 1000000) (e : Int) : MR r e = some (decide (e ∈ r.steps.map (·.elem))) := by
 unfold MR
 obtain ⟨t, h1, h2⟩ := MW (l := r.steps) (f := fun s => s.elem == e) hl (step := HV r e) (by simp [HV]) (fun i a ha => by
  have := BZ ha
  simp only [HV, NW, Bd ha, cond_true, Ah, ha, Option.bind_some, AT (show i < 1000000000 by omega)]
  by_cases c : a.elem = e
  .simp [c]
  have : (a.elem == e) = false := beq_eq_false_iff_ne.2 c
  simp [this])
 rw [h1, W7]
 simp only [Option.bind_some, Option.some.injEq]
 rcases h2 with ⟨rfl, h2⟩ | ⟨a, h0, h2, _⟩
 .rw [h2]; rfl
 rw [h2]; simp [h0]
theorem X6 (r : AO) (hl : r.steps.length < 1000000) (e : Int) : JY r e = some (decide (e ∈ r.steps.map (·.elem))) := by
 unfold JY
 simp only [Nd r hl, Option.bind_some, Pm (r.steps.map (·.elem)) (by simpa using hl)]
theorem K0 {α β γ : Type} (B : Nat) {l : List α} (f : α -> List β) (hf : ∀ a, (f a).length <= 4) (hl : l.length <= 100000) {step : Int × List β -> Option (Int × List β ⊕ γ)} {fin : List β -> γ}
  (h0 : ∀ o, step ((l.length : Int), o) = some (.inr (fin o))) (h1 : ∀ (i : Nat) a o, l[i]? = some a -> o.length <= B + 400000 -> step ((i : Int), o) = some (.inl (((i + 1 : Nat) : Int), o ++ f a))) (o : List β) (ho : o.length <= B) :
  AQ step ((0 : Int), o) = some (fin (o ++ l.flatMap f)) := by
 have hlen : ∀ i, ((l.take i).flatMap f).length <= i * 4 := by
  intro i
  induction i with
  | zero => simp
  | succ i ih =>
   rw [List.take_add_one, List.flatMap_append, List.length_append]
   cases h : l[i]? with
   | none => simp only [Option.toList_none, List.flatMap_nil, List.length_nil]; omega
   | some a =>
    have := hf a
    simp only [Option.toList_some, List.flatMap_cons, List.flatMap_nil, List.append_nil]
    omega
 obtain ⟨b, h2, rfl⟩ := B8 (l := l) (step := step) (Post := fun b => b = fin (o ++ l.flatMap f)) (fun i c => c = o ++ (l.take i).flatMap f) (c := o)
  (fun c hc => ⟨fin c, h0 c, by rw [hc, List.take_length]⟩)
  (fun i a c ha hc => by
   have hi := BZ ha
   have := hlen i
   refine .inr ⟨c ++ f a, h1 i a c ha (by rw [hc, List.length_append]; omega), ?_⟩
   rw [hc, List.take_add_one, ha]
   simp only [Option.toList_some, List.flatMap_append, List.flatMap_cons, List.flatMap_nil, List.append_nil, List.append_assoc])
  (by simp)
 exact h2
section
variable {p : AH} {n : CE}
def JE (p : AH) (s : Ao) : List Int :=
 if AY p s.elem = 2 then [AZ (3 - (if s.out > s.in_ then s.out else s.in_))] else if AY p s.elem = 3 then (if 1 < s.in_ then [0, 1] else [2, 3]) else []
def JF (p : AH) (e : Int) (k : Int) : List AE := if (Ap p ⟨e, k⟩).isSome then [⟨e, k⟩] else []
def Jf (p : AH) (s : Ao) : List AE := (JE p s).flatMap (JF p s.elem)
def DH (p : AH) (l : List Ao) : List AE := l.flatMap (Jf p)
theorem Nk (s : Ao) : (JE p s).length <= 2 := by
 unfold JE
 split
 .simp
 split
 .split <;> simp
 simp
theorem Q3 (e k : Int) : (JF p e k).length <= 1 := by unfold JF; split <;> simp
theorem MY (s : Ao) : (Jf p s).length <= 2 := by
 have := Jd (JF p s.elem) 1 (JE p s) fun k _ => Q3 s.elem k
 have := Nk (p := p) s
 unfold Jf
 omega
theorem J2 (l : List Ao) : (DH p l).length <= l.length * 2 := Jd _ 2 l fun s _ => MY s
theorem W8 (hn : Cj p n) (s : Ao) (c : Int × List AE) (ks : List Int) (hk : ks.length <= 10) (o : List AE) (ho : o.length <= 400000) :
  AQ (F9 n c s ks) (0, o) = some (.inl (AZ (c.1 + 1), o ++ ks.flatMap (JF p s.elem))) := by
 refine K0 400000 (l := ks) (JF p s.elem) (fun k => by have := Q3 (p := p) s.elem k; omega) (by omega) (fin := fun o => (Sum.inl (AZ (c.1 + 1), o) : (Int × List AE) ⊕ List AE)) (fun o => ?_) (fun i a o ha hb => ?_) o ho
 .simp only [F9, B6, cond_false]
 have := BZ ha
 simp only [F9, Bd ha, cond_true, Ah, ha, Option.bind_some, Oq hn, AT (show i < 1000000000 by omega)]
 unfold JF
 cases (Ap p ⟨s.elem, a⟩).isSome with
 | true => simp [BO (show o.length + [(⟨s.elem, a⟩ : AE)].length <= 4294967296 by simp; omega)]
 | false => simp
theorem W9 (hn : Cj p n) (r : AO) (hl : r.steps.length <= 1000) : KU n r = some (DH p r.steps) := by
 unfold KU
 rw [show DH p r.steps = ([] : List AE) ++ r.steps.flatMap (Jf p) from rfl]
 refine K0 0 (l := r.steps) (Jf p) (fun s => by have := MY (p := p) s; omega) (by omega) (fin := fun o => o) (fun o => ?_) (fun i s o ha hb => ?_) [] (by simp)
 .simp only [ID, B6, cond_false]
 have hi := BZ ha
 simp only [ID, Bd ha, cond_true, Ah, ha, Option.bind_some, Oo hn]
 have e : (bif (AY p s.elem == 2) then some [AZ (3 - (if s.out > s.in_ then s.out else s.in_))] else bif (AY p s.elem == 3) then bif decide (1 < s.in_) then some [0, 1] else some [2, 3] else some ([] : List Int) : Option (List Int)) = some (JE p s) := by
  unfold JE
  by_cases c2 : AY p s.elem = 2
  .simp [c2]
  have b2 : (AY p s.elem == 2) = false := beq_eq_false_iff_ne.2 c2
  by_cases c3 : AY p s.elem = 3
  .by_cases d : 1 < s.in_ <;> simp [b2, c2, c3, d]
  have b3 : (AY p s.elem == 3) = false := beq_eq_false_iff_ne.2 c3
  simp [b2, b3, c2, c3]
 rw [e]
 have hk := Nk (p := p) s
 simp only [Option.bind_some, W8 hn s ((i : Int), o) (JE p s) (by omega) o (by omega), AT (show i < 1000000000 by omega)]
 rfl
theorem Vx (hv : B7 p) (e : Int) (c : Int × List AE) (ks : List Int) (hk : ks.length <= 10) (o : List AE) (ho : o.length <= 400000) :
  AQ (Ev p c (ks.map fun k => (⟨e, k⟩ : AE))) (0, o) = some (.inl (AZ (c.1 + 1), o ++ ks.flatMap (JF p e))) := by
 have hj := hv.nj
 have e1 : ks.flatMap (JF p e) = (ks.map fun k => (⟨e, k⟩ : AE)).flatMap fun x => if (Ap p x).isSome then [x] else [] := by
  rw [List.flatMap_map]; rfl
 rw [e1]
 refine K0 400000 (l := ks.map fun k => (⟨e, k⟩ : AE)) (fun x => if (Ap p x).isSome then [x] else []) (fun k => by split <;> simp) (by simp; omega) (fin := fun o => (Sum.inl (AZ (c.1 + 1), o) : (Int × List AE) ⊕ List AE)) (fun o => ?_) (fun i a o ha hb => ?_) o ho
 .simp only [Ev, B6, cond_false]
 have hi := BZ ha
 rw [List.length_map] at hi
 simp only [Ev, Bd ha, cond_true, Ah, ha, Option.bind_some, CK p (by omega), AT (show i < 1000000000 by omega)]
 cases (Ap p a).isSome with
 | true => simp [BO (show o.length + [a].length <= 4294967296 by simp; omega)]
 | false => simp
theorem Vy (hv : B7 p) (r : AO) (hl : r.steps.length <= 1000) : HI p r = some (DH p r.steps) := by
 unfold HI
 rw [show DH p r.steps = ([] : List AE) ++ r.steps.flatMap (Jf p) from rfl]
 refine K0 0 (l := r.steps) (Jf p) (fun s => by have := MY (p := p) s; omega) (by omega) (fin := fun o => o) (fun o => ?_) (fun i s o ha hb => ?_) [] (by simp)
 .simp only [Gt, B6, cond_false]
 have hi := BZ ha
 have w1 : AZ (0 + 1) = 1 := by decide
 have w3 : AZ (2 + 1) = 3 := by decide
 simp only [Gt, Bd ha, cond_true, Ah, ha, Option.bind_some, Ka]
 have e : (bif (AY p s.elem == 2) then (BN ([] : List AE) [(⟨s.elem, AZ (3 - (if s.out > s.in_ then s.out else s.in_))⟩ : AE)]).bind fun y => some y else bif (AY p s.elem == 3) then ((bif decide (2 <= s.in_) then some 0 else some 2 : Option (Int))).bind fun (t : Int) => (BN ([] : List AE) [(⟨s.elem, t⟩ : AE), (⟨s.elem, AZ (t + 1)⟩ : AE)]).bind fun y => some y else some ([] : List AE) : Option (List AE)) = some ((JE p s).map fun k => (⟨s.elem, k⟩ : AE)) := by
  unfold JE
  by_cases c2 : AY p s.elem = 2
  .simp [c2, BN]
  have b2 : (AY p s.elem == 2) = false := beq_eq_false_iff_ne.2 c2
  by_cases c3 : AY p s.elem = 3
  .by_cases d : 1 < s.in_
   .have d2 : decide (2 <= s.in_) = true := by simp; omega
    simp only [b2, c2, c3, d, d2, cond_false, cond_true, if_false, if_true, beq_self_eq_true, Option.bind_some, w1, BN, List.length_nil, List.length_cons, List.nil_append, List.map_cons, List.map_nil]
    simp
   have d2 : decide (2 <= s.in_) = false := by simp; omega
   simp only [b2, c2, c3, d, d2, cond_false, cond_true, if_false, if_true, beq_self_eq_true, Option.bind_some, w3, BN, List.length_nil, List.length_cons, List.nil_append, List.map_cons, List.map_nil]
   simp
  have b3 : (AY p s.elem == 3) = false := beq_eq_false_iff_ne.2 c3
  simp [b2, b3, c2, c3]
 rw [e]
 have hk := Nk (p := p) s
 simp only [Option.bind_some, Vx hv s.elem ((i : Int), o) (JE p s) (by omega) o (by omega), AT (show i < 1000000000 by omega)]
 rfl
theorem Hr {s : Int} {r : AO} (h : r ∈ EY p s) : r.steps.length <= 12 := (D7 h).2.2.2.2.2.2.1
end
end Go.E
/- Plain Lean: which ports lie on the sides of a road (law SideApart). No condition. -/
namespace Go.E
open Go
section
variable {p : AH} {n : CE}
def Su (p : AH) (s : Ao) : Prop :=
 AY p s.elem = 4 \/ (AY p s.elem = 1 /\ ((s.in_ = 0 /\ s.out = 1) \/ (s.in_ = 1 /\ s.out = 0))) \/
 (AY p s.elem = 2 /\ ((s.in_ = 0 /\ s.out = 1) \/ (s.in_ = 0 /\ s.out = 2) \/ (s.in_ = 1 /\ s.out = 0) \/ (s.in_ = 2 /\ s.out = 0))) \/
 (AY p s.elem = 3 /\ ((s.in_ = 0 /\ s.out = 1) \/ (s.in_ = 1 /\ s.out = 0) \/ (s.in_ = 2 /\ s.out = 3) \/ (s.in_ = 3 /\ s.out = 2)))
theorem Uw {e i : Int} {w : Co} (h : w ∈ Bm p e i) : Su p ⟨e, i, w.out⟩ := by
 have hf := Je h
 have hh : Ci p ⟨e, i⟩ = true := by
  cases hh : Ci p ⟨e, i⟩ with
  | true => rfl
  | false => unfold Bm at h; rw [hh] at h; simp at h
 obtain ⟨h1, h2, h3⟩ := Dg hh
 simp only at h1 h2 h3
 unfold Bm at h
 rw [hh] at h
 simp only [if_true] at h
 unfold Su
 simp only
 by_cases k1 : AY p e = 1
 .rw [k1] at h h3 ⊢
  simp [Bw] at h h3
  subst h
  have : i = 0 \/ i = 1 := by omega
  rcases this with rfl | rfl <;> simp
 by_cases k3 : AY p e = 3
 .rw [k3] at h h3 ⊢
  simp [Bw] at h h3
  subst h
  have : i = 0 \/ i = 1 \/ i = 2 \/ i = 3 := by omega
  rcases this with rfl | rfl | rfl | rfl <;> simp
 by_cases k2 : AY p e = 2
 .rw [k2] at h h3 ⊢
  simp [Bw] at h h3
  by_cases i0 : i = 0
  .subst i0
   simp at h
   rcases h with rfl | rfl <;> simp
  rw [if_neg i0] at h
  simp at h
  subst h
  have : i = 1 \/ i = 2 := by omega
  rcases this with rfl | rfl <;> simp
 rw [if_neg k1, if_neg k3, if_neg k2] at h; simp at h
theorem Sv {a : Int} : ∀ {t : List Ao} {x : Option AE} {pv : List Ao} {nd nd' : List AM}, CP p a x pv nd t = some nd' -> (∀ s ∈ t, Su p s /\ s.elem ∉ pv.map (·.elem)) /\ (t.map (·.elem)).Nodup
 | [], x, pv, nd, nd', h => ⟨by simp, by simp⟩
 | s :: r, none, pv, nd, nd', h => by simp [CP] at h
 | s :: r, some x, pv, nd, nd', h => by
  unfold CP at h
  split at h
  .cases h
  rename_i hc
  have hnot : s.elem ∉ pv.map (·.elem) := fun h => hc (.inr (.inr (.inr h)))
  split at h
  .rename_i k4
   split at h
   .rename_i hr
    obtain ⟨rfl, _⟩ := hr
    exact ⟨fun q hq => by simp at hq; subst hq; exact ⟨.inl k4, hnot⟩, by simp⟩
   cases h
  cases hw : QT (Bm p s.elem s.in_) s.out with
  | none => rw [hw] at h; cases h
  | some w =>
   rw [hw] at h
   simp only at h
   split at h
   .cases h
   obtain ⟨g1, g2⟩ := Sv h
   obtain ⟨hw1, hw2⟩ := Qz hw
   have hok := Uw hw1
   rw [hw2] at hok
   refine ⟨fun q hq => ?_, ?_⟩
   .rcases List.mem_cons.1 hq with rfl | hq
    .exact ⟨hok, hnot⟩
    refine ⟨(g1 q hq).1, fun hm => (g1 q hq).2 ?_⟩
    simp at hm ⊢
    exact .inl hm
   rw [List.map_cons, List.nodup_cons]
   refine ⟨fun hm => ?_, g2⟩
   obtain ⟨q, hq, he⟩ := List.mem_map.1 hm
   refine (g1 q hq).2 ?_
   rw [he]
   simp
theorem Vz {s : Int} {r : AO} (h : r ∈ EY p s) : (∀ q ∈ r.steps, Su p q) /\ (r.steps.map (·.elem)).Nodup := by
 obtain ⟨sg, nd, l, _, _, _, h4, _⟩ := Hq (D7 h).1
 obtain ⟨h1, h2⟩ := Sv h4
 exact ⟨fun q hq => (h1 q hq).1, h2⟩
theorem X7 (k : Int) : 0 <= Bw k /\ Bw k <= 4 := by
 unfold Bw
 repeat' split
 all_goals omega
end
end Go.E
/- Plain Lean: what the sides of a road reach, told without an order (Mr, J3): the program's answer. No condition. -/
namespace Go.E
open Go
def BQ (vis : List (AE × Bool)) (x : AE) : Bool := (AW vis x).getD false
theorem FY (vis : List (AE × Bool)) (x y : AE) : BQ (Ay x true vis) y = true ↔ y = x \/ BQ vis y = true := by
 unfold BQ
 rw [Dv]
 by_cases e : y = x <;> simp [e]
theorem LM {α : Type} {P P' : α -> Bool} (hpp : ∀ z, P' z = true -> P z = true) : ∀ l : List α, (l.filter P').length <= (l.filter P).length /\ ∀ x ∈ l, P x = true -> P' x = false -> (l.filter P').length + 1 <= (l.filter P).length
 | [] => ⟨Nat.le_refl _, by simp⟩
 | a :: l => by
  obtain ⟨h1, h2⟩ := LM hpp l
  rw [List.filter_cons, List.filter_cons]
  by_cases c : P' a = true
  .rw [if_pos c, if_pos (hpp a c)]
   simp only [List.length_cons]
   refine ⟨by omega, fun x hx hp hp' => ?_⟩
   rcases List.mem_cons.1 hx with rfl | hx
   .rw [c] at hp'; cases hp'
   have := h2 x hx hp hp'; omega
  rw [if_neg c]
  by_cases d : P a = true
  .rw [if_pos d]
   simp only [List.length_cons]
   exact ⟨by omega, fun x hx hp hp' => by omega⟩
  rw [if_neg d]
  refine ⟨h1, fun x hx hp hp' => ?_⟩
  rcases List.mem_cons.1 hx with rfl | hx
  .exact absurd hp d
  exact h2 x hx hp hp'
section
variable {p : AH} {n : CE}
def N9 (p : AH) (shut : List Bool) (x : AE) : Bool := decide (0 <= A0 p x) && (Ak shut (A0 p x)).getD false
inductive Mr (p : AH) (pos : List Int) (shut : List Bool) (st : List Ao) : AE -> Prop
 | init {x y : AE} : x ∈ DH p st -> Ap p x = some y -> Mr p pos shut st y
 | step {x y : AE} {o : Int} : Mr p pos shut st x -> x.elem ∉ st.map (·.elem) -> N9 p shut x = false -> AY p x.elem ≠ 4 -> BC p x.elem x.fin (W4 pos x.elem) = some o -> Ap p ⟨x.elem, o⟩ = some y -> Mr p pos shut st y
def J3 (p : AH) (pos : List Int) (shut : List Bool) (st : List Ao) (e : Int) : Prop :=
 ∃ x, Mr p pos shut st x /\ x.elem = e /\ e ∉ st.map (·.elem) /\ N9 p shut x = false /\ (AY p e = 4 \/ (BC p e x.fin (W4 pos e)).isSome = true)
variable {pos : List Int} {shut : List Bool} {r : AO}
theorem Mr.from {st : List Ao} {y : AE} (h : Mr p pos shut st y) : ∃ x, Ap p x = some y := by
 cases h with
 | init h1 h2 => exact ⟨_, h2⟩
 | step _ _ _ _ _ h2 => exact ⟨_, h2⟩
theorem V0 {x : AE} (h : Ci p x = true) : 0 <= x.elem /\ x.elem < p.elems.length := by
 obtain ⟨h1, h2, h3⟩ := Dg h
 refine J1 fun e => ?_
 rw [e] at h3
 simp [Bw] at h3
 omega
def Pp (vis : List (AE × Bool)) (zone : List (Int × Bool)) (p : AH) (y : AE) : Prop := BQ vis y = true \/ (AY p y.elem = 4 /\ (AW zone y.elem).isSome = true)
def Ux (p : AH) (pos : List Int) (shut : List Bool) (st : List Ao) (q : List AE) (vis : List (AE × Bool)) (zone : List (Int × Bool)) (x : AE) : Prop :=
 x.elem ∉ st.map (·.elem) -> N9 p shut x = false -> AY p x.elem ≠ 4 /\ ∀ o, BC p x.elem x.fin (W4 pos x.elem) = some o -> (AW zone x.elem).isSome = true /\ ∀ y, Ap p ⟨x.elem, o⟩ = some y -> y ∈ q \/ Pp vis zone p y
def GB (p : AH) (vis : List (AE × Bool)) : Nat := ((B3 p).filter fun x => !BQ vis x).length
structure RI (p : AH) (pos : List Int) (shut : List Bool) (st : List Ao) (M k : Nat) (q : List AE) (vis : List (AE × Bool)) (zone : List (Int × Bool)) : Prop where
 arr : ∀ x ∈ q, Mr p pos shut st x
 full : ∀ x, BQ vis x = true -> Ux p pos shut st q vis zone x
 init : ∀ x y, x ∈ DH p st -> Ap p x = some y -> y ∈ q \/ Pp vis zone p y
 zon : ∀ e, (AW zone e).isSome = true -> J3 p pos shut st e
 nodup : (zone.map (·.1)).Nodup
 len : zone.length <= k
 meas : k + q.length + 2 * GB p vis <= M
theorem RI.next {st : List Ao} {M k : Nat} {x : AE} {q q' : List AE} {vis vis' : List (AE × Bool)} {zone zone' : List (Int × Bool)} (h : RI p pos shut st M k (x :: q) vis zone)
  (hq : ∀ y ∈ q, y ∈ q') (hq2 : ∀ y ∈ q', Mr p pos shut st y) (hv : ∀ y, BQ vis y = true -> BQ vis' y = true) (hv2 : ∀ y, BQ vis' y = true -> BQ vis y = true \/ y = x)
  (hz : ∀ e, (AW zone e).isSome = true -> (AW zone' e).isSome = true) (hz2 : ∀ e, (AW zone' e).isSome = true -> J3 p pos shut st e) (hz3 : (zone'.map (·.1)).Nodup) (hz4 : zone'.length <= zone.length + 1)
  (hx : Pp vis' zone' p x) (hf : BQ vis' x = true -> BQ vis x = false -> Ux p pos shut st q' vis' zone' x) (hm : q'.length + 2 * GB p vis' <= q.length + 2 * GB p vis) : RI p pos shut st M (k + 1) q' vis' zone' := by
 have keep : ∀ y, (y ∈ x :: q \/ Pp vis zone p y) -> y ∈ q' \/ Pp vis' zone' p y := by
  rintro y (hy | hy | ⟨hy, hy2⟩)
  .rcases List.mem_cons.1 hy with rfl | hy
   .exact .inr hx
   exact .inl (hq y hy)
  .exact .inr (.inl (hv y hy))
  exact .inr (.inr ⟨hy, hz _ hy2⟩)
 refine ⟨hq2, fun y hy => ?_, fun a y ha hy => keep y (h.init a y ha hy), hz2, hz3, by have := h.len; omega, by have := h.meas; simp only [List.length_cons] at this; omega⟩
 have old : BQ vis y = true -> Ux p pos shut st q' vis' zone' y := fun hy => fun h1 h2 => by
  obtain ⟨g1, g2⟩ := h.full y hy h1 h2
  exact ⟨g1, fun o ho => ⟨hz _ (g2 o ho).1, fun z hz' => keep z ((g2 o ho).2 z hz')⟩⟩
 rcases hv2 y hy with hy' | rfl
 .exact old hy'
 cases c : BQ vis y with
 | true => exact old c
 | false => exact hf hy c
end
end Go.E
/- Plain Lean: the elements that Reach answers are those of J3, ascending (laws SideShut, SideRuns). No condition. -/
namespace Go.E
open Go
section
variable {p : AH} {n : CE} {pos : List Int} {shut : List Bool} {r : AO}
theorem V1 {vis : List (AE × Bool)} (x : AE) : GB p (Ay x true vis) <= GB p vis :=
 (LM (fun z hz => by
  cases hs : BQ vis z with
  | false => rfl
  | true =>
   have := (FY vis x z).2 (.inr hs)
   simp only [this, Bool.not_true] at hz
   cases hz) (B3 p)).1
theorem Sw {vis : List (AE × Bool)} {x : AE} (hx : x ∈ B3 p) (hv : BQ vis x = false) : GB p (Ay x true vis) + 1 <= GB p vis :=
 (LM (fun z hz => by
  cases hs : BQ vis z with
  | false => rfl
  | true =>
   have := (FY vis x z).2 (.inr hs)
   simp only [this, Bool.not_true] at hz
   cases hz) (B3 p)).2 x hx (by simp [hv]) (by simp [(FY vis x x).2 (.inl rfl)])
def Da (p : AH) (l : List AE) : List AE := l.map fun x => (Ap p x).getD ⟨0, 0⟩
theorem IQ {l : List Ao} {x : AE} (h : x ∈ DH p l) : ∃ y, Ap p x = some y := by
 unfold DH Jf at h
 obtain ⟨s, _, h⟩ := List.mem_flatMap.1 h
 obtain ⟨k, _, h⟩ := List.mem_flatMap.1 h
 unfold JF at h
 split at h
 .rename_i hs
  simp at h
  subst h
  exact Option.isSome_iff_exists.1 hs
 simp at h
theorem Q4 {a b : List Bool} (h : ∀ j : Nat, a[j]? = some true -> b[j]? = some true) {x : AE} (hs : N9 p b x = false) : N9 p a x = false := by
 unfold N9 at *
 by_cases c : 0 <= A0 p x
 .obtain ⟨i, hi⟩ := Int.eq_ofNat_of_zero_le c
  rw [hi] at hs ⊢
  simp only [Ah, Int.natCast_nonneg, decide_true, Bool.true_and] at hs ⊢
  cases ha : a[i]? with
  | none => rfl
  | some v =>
   cases v with
   | false => rfl
   | true => rw [h i ha] at hs; cases hs
 simp [c]
theorem Mr.mono {a b : List Bool} (h : ∀ j : Nat, a[j]? = some true -> b[j]? = some true) {st : List Ao} {x : AE} (hx : Mr p pos b st x) : Mr p pos a st x := by
 induction hx with
 | init h1 h2 => exact .init h1 h2
 | step h1 h2 h3 h4 h5 h6 ih => exact .step ih h2 (Q4 h h3) h4 h5 h6
theorem J3.mono {a b : List Bool} (h : ∀ j : Nat, a[j]? = some true -> b[j]? = some true) {st : List Ao} {e : Int} (hx : J3 p pos b st e) : J3 p pos a st e := by
 obtain ⟨x, h1, h2, h3, h4, h5⟩ := hx
 exact ⟨x, h1.mono h, h2, h3, Q4 h h4, h5⟩
theorem J3.range (hv : B7 p) {st : List Ao} {e : Int} (h : J3 p pos shut st e) : 0 <= e /\ e < p.elems.length := by
 obtain ⟨x, h1, rfl, _⟩ := h
 obtain ⟨w, hw⟩ := h1.from
 exact V0 (hv.join.next hw)
end
end Go.E
/- Plain Lean: what is reached is in order, outside the road, and no more if more signals are shut (law SideShut); a run that comes in from the side begins in it (law SideRuns). No condition. -/
namespace Go.E
open Go
section
variable {p : AH} {n : CE} {pos : List Int} {shut : List Bool} {r : AO}
end
end Go.E
/- Plain Lean: a run that comes in from the side begins in an element that is reached (law SideRuns). No condition. -/
namespace Go.E
open Go
theorem MZ {x : AE} : ∀ {l m : List Bk}, x ∉ (l.flatMap fun j => [j.a, j.b]) -> CW (l ++ m) x = CW m x
 | [], m, _ => rfl
 | j :: l, m, h => by
  simp only [List.flatMap_cons, List.mem_append, List.mem_cons, List.not_mem_nil, or_false, not_or] at h
  obtain ⟨⟨h1, h2⟩, h3⟩ := h
  simp only [List.cons_append, CW]
  rw [if_neg (fun e => h1 e.symm), if_neg (fun e => h2 e.symm)]
  exact MZ h3
theorem OP {x y : AE} : ∀ {l : List Bk}, CW l x = some y -> ∃ l1 j l2, l = l1 ++ j :: l2 /\ ((j.a = x /\ j.b = y) \/ (j.b = x /\ j.a = y))
 | j :: l, h => by
  simp only [CW] at h
  split at h
  .rename_i e; cases h; exact ⟨[], j, l, rfl, .inl ⟨e, rfl⟩⟩
  split at h
  .rename_i e; cases h; exact ⟨[], j, l, rfl, .inr ⟨e, rfl⟩⟩
  obtain ⟨l1, k, l2, e, hk⟩ := OP h
  exact ⟨j :: l1, k, l2, by rw [e]; rfl, hk⟩
section
variable {p : AH} {n : CE} {pos : List Int} {shut : List Bool} {r : AO}
theorem TZ (hj : FW p) : (B3 p).Nodup := by
 rw [List.Nodup, List.pairwise_iff_getElem]
 intro i k hi hk hlt
 exact hj.dist k i _ _ hlt (List.getElem?_eq_getElem hk) (List.getElem?_eq_getElem hi)
theorem Q5 (hj : FW p) {x y : AE} (h : Ap p x = some y) : Ap p y = some x := by
 obtain ⟨l1, j, l2, e, hk⟩ := OP h
 have hnd := TZ hj
 unfold B3 at hnd
 unfold Ap
 rw [e] at hnd ⊢
 rw [List.flatMap_append, List.flatMap_cons, List.nodup_append] at hnd
 obtain ⟨_, h2, h3⟩ := hnd
 have ha : j.a ∉ l1.flatMap fun j => [j.a, j.b] := fun hm => h3 _ hm _ (by simp) rfl
 have hb : j.b ∉ l1.flatMap fun j => [j.a, j.b] := fun hm => h3 _ hm _ (by simp) rfl
 have hab : j.a ≠ j.b := by
  rw [List.nodup_append] at h2
  have := h2.1
  simpa using this
 rcases hk with ⟨rfl, rfl⟩ | ⟨rfl, rfl⟩
 .rw [MZ hb]
  simp [CW, hab]
 rw [MZ ha]
 simp [CW]
theorem V2 {e i : Int} {w : Co} (h : w ∈ Bm p e i) : (⟨i, w.pos⟩ : Co) ∈ Bm p e w.out := by
 obtain ⟨f1, f2, f3, f4, f5, _⟩ := Je h
 have hh : Ci p ⟨e, i⟩ = true := by simp [Ci, f3, f4]
 have hh2 : Ci p ⟨e, w.out⟩ = true := by simp [Ci, f1, f2]
 unfold Bm at h ⊢
 rw [hh] at h
 rw [hh2]
 simp only [if_true] at h ⊢
 by_cases k1 : AY p e = 1
 .rw [if_pos k1] at h ⊢
  simp at h
  subst h
  simp; omega
 rw [if_neg k1] at h ⊢
 by_cases k3 : AY p e = 3
 .rw [if_pos k3] at h ⊢
  rw [k3] at f4
  simp [Bw] at f4
  simp at h
  subst h
  have : i = 0 \/ i = 1 \/ i = 2 \/ i = 3 := by omega
  rcases this with rfl | rfl | rfl | rfl <;> simp
 rw [if_neg k3] at h ⊢
 by_cases k2 : AY p e = 2
 .rw [if_pos k2] at h ⊢
  rw [k2] at f4
  simp [Bw] at f4
  by_cases i0 : i = 0
  .subst i0
   simp at h
   rcases h with rfl | rfl <;> simp
  rw [if_neg i0] at h
  simp at h
  subst h
  have : i = 1 \/ i = 2 := by omega
  rcases this with rfl | rfl <;> simp
 rw [if_neg k2] at h; simp at h
theorem Nl {e i x o : Int} (h : BC p e i x = some o) : BC p e o x = some i := by
 obtain ⟨w, hw, rfl, hx⟩ := Ng h
 have := V2 hw
 exact J0 this hx
end
end Go.E
/- Plain Lean: what the sides of a road reach: the document's answer and the program's are one (law SideReaches). No condition. -/
namespace Go.E
open Go
theorem Uy (l : List AE) (hl : l.length < 1000000) (x : AE) : Fq l x = some (decide (x ∈ l)) := by
 unfold Fq
 obtain ⟨b, h1, h2⟩ := Bg (l := l) (step := DM l x) (Post := fun b => b = decide (x ∈ l)) (fun _ y => y ≠ x) (fun good => ⟨false, by simp [DM], by
   symm; rw [decide_eq_false_iff_not]; intro hm
   obtain ⟨i, hi⟩ := List.getElem?_of_mem hm
   exact good i x hi rfl⟩) (fun i a ha _ => by
   have := BZ ha
   by_cases e : a = x
   .exact .inl ⟨true, by simp only [DM, Bd ha, cond_true, Ah, ha, Option.bind_some, e, beq_self_eq_true], by symm; rw [decide_eq_true_iff]; subst e; exact List.mem_of_getElem? ha⟩
   have : (a == x) = false := beq_eq_false_iff_ne.2 e
   exact .inr ⟨by simp only [DM, Bd ha, cond_true, Ah, ha, Option.bind_some, this, cond_false, AT (show i < 1000000000 by omega)], e⟩)
 rw [h1, h2]
section
variable {p : AH} {n : CE} {pos : List Int} {shut : List Bool} {r : AO}
theorem RR (p : AH) (e i x : Int) : Gf p e i x = some ((BC p e i x).getD 0, (BC p e i x).isSome) := by
 unfold Gf BC
 rw [Pj]
 simp only [Option.bind_some]
 have hl := Ky p e i
 refine Jb (γ := Unit) (Bm p e i) (fun k _ => (k : Int)) (fun _ _ r => some ((CL r x).getD 0, (CL r x).isSome)) (fun _ => ?_) (fun k _ a r ha hi => ?_) ()
 .simp [GA, CL]
 simp only [GA, Ah, ha, Option.bind_some, Bd ha, cond_true, CL, DX]
 by_cases h1 : a.pos = 0
 .left; simp [h1]
 by_cases h2 : a.pos = x
 .left
  simp [h1, h2]
 right
 have : (a.pos == x) = false := beq_eq_false_iff_ne.2 h2
 exact ⟨(), by simp [h1, this, AT (show k < 1000000000 by omega)], by simp [h1, h2]⟩
theorem Ms {e f x o : Int} (h : BC p e f x = some o) : 0 <= o /\ o < Bw (AY p e) := by
 obtain ⟨w, hw, rfl, _⟩ := Ng h
 have := Je hw
 exact ⟨this.1, this.2.1⟩
theorem Uz (p : AH) (e f x : Int) : JZ p e f x = some ((BC p e f x).getD 0, (BC p e f x).isSome) := by
 unfold JZ
 have he := X7 (AY p e)
 obtain ⟨b, h1, rfl⟩ := Dz (step := IF p e f x) (Post := fun b => b = ((BC p e f x).getD 0, (BC p e f x).isSome)) (fun k i => i = (k : Int) /\ (k : Int) <= Bw (AY p e) /\ ∀ o, BC p e f x = some o -> (k : Int) <= o) 5 (s := (0 : Int)) (by
  rintro k i ⟨rfl, h2, h3⟩
  simp only [IF, DZ, IL, Option.bind_some]
  by_cases d : (k : Int) < Bw (AY p e)
  .rw [decide_eq_true d]
   simp only [cond_true, RR, Option.bind_some]
   by_cases c : BC p e (k : Int) x = some f
   .left
    refine ⟨_, ?_, rfl⟩
    rw [c, Nl c]
    simp
   right
   refine ⟨by omega, ((k + 1 : Nat) : Int), ?_, rfl, by omega, fun o ho => ?_⟩
   .have w := AT (show k < 1000000000 by omega)
    cases ht : BC p e (k : Int) x with
    | none => simp only [Option.isSome_none, cond_false, Option.bind_some, w]
    | some v =>
     have hne : (v == f) = false := beq_eq_false_iff_ne.2 (fun hv => c (by rw [ht, hv]))
     simp only [Option.isSome_some, Option.getD_some, cond_true, Option.bind_some, hne, cond_false, w]
   have := h3 o ho
   have hne : (k : Int) ≠ o := fun hk => c (by rw [hk]; exact Nl ho)
   omega
  left
  refine ⟨_, ?_, rfl⟩
  rw [decide_eq_false d]
  cases ht : BC p e f x with
  | none => rfl
  | some o =>
   have := h3 o ht
   have := Ms ht
   omega) ⟨rfl, by omega, fun o ho => (Ms ho).1⟩
 exact h1
end
end Go.E
/- The example that the laws of flanks AF at, reckoned by the kernel. No condition. -/
namespace Go.E
open Go Go.Proofs
set_option maxRecDepth 100000
end Go.E
/- The example that the laws of proofs AF at, reckoned by the kernel. No condition. -/
namespace Go.E
open Go Go.Proofs
set_option maxRecDepth 100000
end Go.E
/- Plain Lean: the flank of a road: how its search begins; a road without side ports (law FlankNone). No condition. -/
namespace Go.E
open Go
theorem IR (l : List Int) (hl : l.length < 1000000) (x : Int) : BU l x = some (decide (x ∈ l)) := by
 unfold BU DU
 obtain ⟨t, h1, h2⟩ := MW (l := l) (f := fun a => x == a) hl (step := Cw l x) (by simp [Cw]) (fun i a ha => by
  have := BZ ha
  simp only [Cw, Bd ha, cond_true, Ah, ha, Option.bind_some, AT (show i < 1000000000 by omega)]
  cases hb : (x == a) <;> simp)
 rw [h1]
 simp only [Option.bind_some, Option.some.injEq]
 rcases h2 with ⟨rfl, h2⟩ | ⟨a, h0, h2, _⟩
 .have : x ∉ l := fun h => by have := List.find?_eq_none.1 h2 x h; simp at this
  simp [this]
 have hm := List.mem_of_find?_eq_some h2
 have he := List.find?_some h2
 simp only [beq_iff_eq] at he
 subst he
 simp [h0, hm]
theorem Mt (l : List AM) (hl : l.length < 1000000) (x : AM) : CU l x = some (decide (x ∈ l)) := by
 unfold CU HH
 obtain ⟨t, h1, h2⟩ := MW (l := l) (f := fun a => x == a) hl (step := C0 l x) (by simp [C0]) (fun i a ha => by
  have := BZ ha
  simp only [C0, Bd ha, cond_true, Ah, ha, Option.bind_some, AT (show i < 1000000000 by omega)]
  cases hb : (x == a) <;> simp)
 rw [h1]
 simp only [Option.bind_some, Option.some.injEq]
 rcases h2 with ⟨rfl, h2⟩ | ⟨a, h0, h2, _⟩
 .have : x ∉ l := fun h => by have := List.find?_eq_none.1 h2 x h; simp at this
  simp [this]
 have hm := List.mem_of_find?_eq_some h2
 have he := List.find?_some h2
 simp only [beq_iff_eq] at he
 subst he
 simp [h0, hm]
section
variable {p : AH} {n : CE} {r : AO}
theorem LN (hv : B7 p) (hn : Cj p n) (h1 : r.steps.length <= 12) (h2 : r.needs.length <= 1000) : FQ n r = AQ (Br n r r.steps r.needs p) (false, [], [], [], [], (Da p (DH p r.steps)).reverse) := by
 unfold FQ
 have e1 : HF r.steps = some r.steps := D5 _ (by omega)
 have e2 : BL r.needs = some r.needs := D5 _ (by omega)
 have e3 : Iq n = some p := by unfold Iq; rw [hn.plan, T4 p hv.few]; rfl
 simp only [e1, e2, e3, Option.bind_some, W9 hn (⟨r.frm, r.to, r.fin, r.steps, r.needs, [], [], [], false⟩ : AO) (show r.steps.length <= 1000 by omega)]
 have hp := J2 (p := p) r.steps
 generalize hL : DH p r.steps = L at hp
 have key : ∀ (k : Nat) (q : List AE), k <= L.length -> q = (Da p (L.drop k)).reverse -> AQ (Fp n r r.steps r.needs p L) ((k : Int) - 1, q) = AQ (Br n r r.steps r.needs p) (false, [], [], [], [], (Da p L).reverse) := by
  intro k
  induction k with
  | zero =>
   intro q _ hq
   rw [List.drop_zero] at hq
   subst hq
   cases hr : AQ (Br n r r.steps r.needs p) (false, [], [], [], [], (Da p L).reverse) with
   | some b =>
    refine DY ?_
    have d : decide ((0 : Int) <= ((0 : Nat) : Int) - 1) = false := by decide
    simp only [Fp, d, cond_false, hr, Option.map_some]
   | none =>
    rw [GO]
    have d : decide ((0 : Int) <= ((0 : Nat) : Int) - 1) = false := by decide
    simp only [Fp, d, cond_false, hr, Option.map_none]
  | succ k ih =>
   intro q hk hq
   obtain ⟨x, hx⟩ : ∃ x, L[k]? = some x := ⟨_, List.getElem?_eq_getElem (by omega)⟩
   have hql : q.length <= 24 := by rw [hq]; unfold Da; simp; omega
   have hd : L.drop k = x :: L.drop (k + 1) := by
    obtain ⟨h, e⟩ := List.getElem?_eq_some_iff.1 hx
    rw [List.drop_eq_getElem_cons h, e]
   rw [<- ih (q ++ [(Ap p x).getD ⟨0, 0⟩]) (by omega) (by rw [hd, hq]; unfold Da; simp)]
   refine CT ?_
   have d : decide ((0 : Int) <= (k : Int)) = true := decide_eq_true (by omega)
   have e : (((k + 1 : Nat) : Int) - 1) = (k : Int) := by omega
   have w : AZ ((k : Int) - 1) = (k : Int) - 1 := by rw [CQ] <;> omega
   simp only [Fp, d, cond_true, e, Ah, hx, Option.bind_some, Oq hn, BO (show q.length + [(Ap p x).getD (⟨0, 0⟩ : AE)].length <= 4294967296 by simp; omega), w]
 have w : AZ ((L.length : Int) - 1) = (L.length : Int) - 1 := by rw [CQ] <;> omega
 rw [w]
 exact key L.length [] (Nat.le_refl _) (by simp [Da])
end
end Go.E
/- Plain Lean: the flank of a road: one round of its search; what holds behind it. No condition. -/
namespace Go.E
open Go
section
variable {p : AH} {n : CE} {r : AO}
def BA (b : Bool) (z : List Int) (e : Int) : Bool × Bool × List Int := if e ∈ z then (true, b, z) else if 12 <= z.length then (false, true, z) else (true, b, z ++ [e])
def Dc (p : AH) (l : List AE) (x : AE) : List AE := match Ap p x with
 | some y => l ++ [y]
 | none => l
abbrev FS := Bool × List (AE × Bool) × List AM × List Int × List Int × List AE
def JG (p : AH) (st : List Ao) (nd : List AM) (b : Bool) (vis : List (AE × Bool)) (g : List AM) (z h : List Int) (l : List AE) (x : AE) : FS :=
 if x.elem ∈ st.map (·.elem) \/ BQ vis x = true then (b, vis, g, z, h, l)
 else if 0 <= A0 p x /\ p.hard = false then (b, Ay x true vis, g, z, if A0 p x ∈ h then h else h ++ [A0 p x], l)
 else if AY p x.elem = 4 then (true, Ay x true vis, g, z, h, l)
 else if AY p x.elem = 2 then
  if x.fin = 0 then ((BA b z x.elem).2.1, Ay x true vis, g, (BA b z x.elem).2.2, h, if (BA b z x.elem).1 then Dc p (Dc p l ⟨x.elem, 2⟩) ⟨x.elem, 1⟩ else l)
  else if ⟨x.elem, x.fin⟩ ∈ nd \/ ⟨x.elem, x.fin⟩ ∈ g then ((BA b z x.elem).2.1, Ay x true vis, g, (BA b z x.elem).2.2, h, if (BA b z x.elem).1 then Dc p l ⟨x.elem, 0⟩ else l)
  else (b, Ay x true vis, if ⟨x.elem, AZ (3 - x.fin)⟩ ∈ g then g else g ++ [⟨x.elem, AZ (3 - x.fin)⟩], z, h, l)
 else match BC p x.elem x.fin 0 with
  | none => (b, Ay x true vis, g, z, h, l)
  | some o => ((BA b z x.elem).2.1, Ay x true vis, g, (BA b z x.elem).2.2, h, if (BA b z x.elem).1 then Dc p l ⟨x.elem, o⟩ else l)
theorem XA (b : Bool) (z : List Int) (e : Int) (hz : z.length <= 1000) : ((BU z e).bind fun y => bif y then some (true, b, z) else bif decide (12 <= (z.length : Int)) then some (false, true, z) else (BN z [e]).bind fun y' => some (true, b, y') : Option (Bool × Bool × List Int)) = some (BA b z e) := by
 rw [IR z (by omega)]
 unfold BA
 simp only [Option.bind_some]
 by_cases c : e ∈ z
 .rw [decide_eq_true c, if_pos c]; rfl
 rw [decide_eq_false c, if_neg c]
 by_cases d : 12 <= z.length
 .rw [if_pos d, decide_eq_true (show (12 : Int) <= (z.length : Int) by omega)]; rfl
 rw [if_neg d, decide_eq_false (show ¬ (12 : Int) <= (z.length : Int) by omega)]
 simp only [cond_false, BO (show z.length + [e].length <= 4294967296 by simp; omega), Option.bind_some]
theorem Mb (hn : Cj p n) (l : List AE) (x : AE) (hl : l.length <= 1000000) : ((Cg n x).bind fun y => bif y.2 then (BN l [y.1]).bind fun y' => some y' else some l : Option (List AE)) = some (Dc p l x) := by
 rw [Oq hn]
 unfold Dc
 cases Ap p x with
 | none => rfl
 | some y => simp only [Option.bind_some, Option.isSome_some, Option.getD_some, cond_true, BO (show l.length + [y].length <= 4294967296 by simp; omega)]
theorem Nm (l : List AE) (x : AE) : (Dc p l x).length <= l.length + 1 := by unfold Dc; split <;> simp
theorem Mc (hn : Cj p n) (h1 : r.steps.length <= 12) (h2 : r.needs.length <= 1000) (b : Bool) (vis : List (AE × Bool)) (g : List AM) (z h : List Int) (l : List AE) (x : AE) (hg : g.length <= 1000) (hz : z.length <= 1000) (hh : h.length <= 1000) (hl : l.length <= 1000) :
  Br n r r.steps r.needs p (b, vis, g, z, h, l ++ [x]) = some (.inl (JG p r.steps r.needs b vis g z h l x)) := by
 have d : decide ((0 : Int) < (((l ++ [x]).length : Nat) : Int)) = true := by simp
 have w := X3 l x (by omega)
 have i1 := Yr x (rfl : l.length = l.length)
 have s1 := Ys x (rfl : l.length = l.length)
 have own := Yt (⟨r.frm, r.to, r.fin, r.steps, r.needs, g, z, h, b⟩ : AO) (show r.steps.length < 1000000 by omega) x.elem
 have tz := XA b z x.elem hz
 have vb : (AW vis x).getD false = BQ vis x := rfl
 unfold Br JG
 simp only [d, cond_true, w, i1, s1, own, Option.bind_some, vb]
 by_cases c : x.elem ∈ r.steps.map (·.elem) \/ BQ vis x = true
 .rw [if_pos c]
  rcases c with c | c
  .rw [decide_eq_true c]; rfl
  rw [c]; cases decide (x.elem ∈ r.steps.map (·.elem)) <;> rfl
 rw [if_neg c]
 have c1 : x.elem ∉ r.steps.map (·.elem) := fun h => c (.inl h)
 have c2 : BQ vis x = false := by cases hs : BQ vis x with | false => rfl | true => exact absurd (.inr hs) c
 rw [decide_eq_false c1, c2]
 simp only [cond_false, Option.bind_some, Vt hn]
 by_cases k1 : 0 <= A0 p x /\ p.hard = false
 .rw [if_pos k1, decide_eq_true k1.1, k1.2]
  simp only [cond_true, Bool.not_false, Option.bind_some, IR h (show h.length < 1000000 by omega)]
  by_cases m : A0 p x ∈ h
  .rw [decide_eq_true m, if_pos m]; rfl
  rw [decide_eq_false m, if_neg m]
  simp only [Bool.not_false, cond_true, BO (show h.length + [A0 p x].length <= 4294967296 by simp; omega), Option.bind_some]
 rw [if_neg k1]
 have eb : (bif decide (0 <= A0 p x) then some (!p.hard) else some false : Option Bool) = some false := by
  by_cases a : 0 <= A0 p x
  .rw [decide_eq_true a]
   cases hp : p.hard with
   | true => rfl
   | false => exact absurd ⟨a, hp⟩ k1
  rw [decide_eq_false a]; rfl
 simp only [eb, Option.bind_some, cond_false, Oo hn]
 by_cases k4 : AY p x.elem = 4
 .rw [if_pos k4, k4]; rfl
 rw [if_neg k4]
 have b4 : (AY p x.elem == 4) = false := beq_eq_false_iff_ne.2 k4
 simp only [b4, cond_false]
 by_cases k2 : AY p x.elem = 2
 .rw [if_pos k2, k2]
  simp only [beq_self_eq_true, cond_true]
  by_cases f0 : x.fin = 0
  .rw [if_pos f0]
   have bf : (x.fin == 0) = true := by simp [f0]
   simp only [bf, cond_true, tz, Option.bind_some]
   have q1 := Nm (p := p) l ⟨x.elem, 2⟩
   cases ht : (BA b z x.elem).1 with
   | true => simp only [cond_true, Mb hn l ⟨x.elem, 2⟩ (by omega), Option.bind_some, Mb hn (Dc p l ⟨x.elem, 2⟩) ⟨x.elem, 1⟩ (by omega), if_true]
   | false => simp only [cond_false, Option.bind_some, Bool.false_eq_true, if_false]
  rw [if_neg f0]
  have bf : (x.fin == 0) = false := beq_eq_false_iff_ne.2 f0
  simp only [bf, cond_false, Mt r.needs (show r.needs.length < 1000000 by omega), Mt g (show g.length < 1000000 by omega), Option.bind_some]
  have en : (bif decide ((⟨x.elem, x.fin⟩ : AM) ∈ r.needs) then some true else some (decide ((⟨x.elem, x.fin⟩ : AM) ∈ g)) : Option Bool) = some (decide ((⟨x.elem, x.fin⟩ : AM) ∈ r.needs \/ (⟨x.elem, x.fin⟩ : AM) ∈ g)) := by
   by_cases a : (⟨x.elem, x.fin⟩ : AM) ∈ r.needs
   .simp [a]
   simp [a]
  simp only [en, Option.bind_some]
  by_cases a : (⟨x.elem, x.fin⟩ : AM) ∈ r.needs \/ (⟨x.elem, x.fin⟩ : AM) ∈ g
  .rw [if_pos a, decide_eq_true a]
   simp only [cond_true, tz, Option.bind_some]
   cases ht : (BA b z x.elem).1 with
   | true => simp only [cond_true, Mb hn l ⟨x.elem, 0⟩ (by omega), Option.bind_some, if_true]
   | false => simp only [cond_false, Option.bind_some, Bool.false_eq_true, if_false]
  rw [if_neg a, decide_eq_false a]
  simp only [cond_false]
  by_cases m : (⟨x.elem, AZ (3 - x.fin)⟩ : AM) ∈ g
  .rw [decide_eq_true m, if_pos m]; rfl
  rw [decide_eq_false m, if_neg m]
  simp only [Bool.not_false, cond_true, BO (show g.length + [(⟨x.elem, AZ (3 - x.fin)⟩ : AM)].length <= 4294967296 by simp; omega), Option.bind_some]
 rw [if_neg k2]
 have b2 : (AY p x.elem == 2) = false := beq_eq_false_iff_ne.2 k2
 simp only [b2, cond_false, Lm, TW hn, Option.bind_some]
 cases ht : BC p x.elem x.fin 0 with
 | none => rfl
 | some o =>
  simp only [Option.isSome_some, cond_true, Option.getD_some, tz, Option.bind_some]
  cases htz : (BA b z x.elem).1 with
  | true => simp only [cond_true, Mb hn l ⟨x.elem, o⟩ (by omega), Option.bind_some, if_true]
  | false => simp only [cond_false, Bool.false_eq_true, if_false]
end
end Go.E
/- Plain Lean: the flank of a road: what holds of zone, guards and holds; the search ends (laws FlankAgain, FlankApart). No condition. -/
namespace Go.E
open Go
section
variable {p : AH} {n : CE} {r : AO}
structure T6 (p : AH) (st : List Ao) (z : List Int) : Prop where
 len : z.length <= 12
 nd : z.Nodup
 own : ∀ e ∈ z, e ∉ st.map (·.elem) /\ AY p e ≠ 4
 rng : ∀ e ∈ z, AY p e ≠ 0
structure V3 (p : AH) (st : List Ao) (g : List AM) : Prop where
 ok : ∀ m ∈ g, m.elem ∉ st.map (·.elem) /\ AY p m.elem = 2 /\ (m.pos = 1 \/ m.pos = 2)
 nd : g.Pairwise (fun a b => a.elem ≠ b.elem)
theorem XB {st : List Ao} {b : Bool} {z : List Int} {e : Int} (h : T6 p st z) (h1 : e ∉ st.map (·.elem)) (h2 : AY p e ≠ 4) (h3 : AY p e ≠ 0) : T6 p st (BA b z e).2.2 := by
 unfold BA
 split
 .exact h
 rename_i hm
 split
 .exact h
 rename_i hl
 refine ⟨by simp; omega, ?_, fun a ha => ?_, fun a ha => ?_⟩
 .simp only
  rw [List.nodup_append]
  exact ⟨h.nd, by simp, fun a ha c hc => by simp at hc; subst hc; intro e; subst e; exact hm ha⟩
 .rcases List.mem_append.1 ha with ha | ha
  .exact h.own a ha
  simp at ha; subst ha; exact ⟨h1, h2⟩
 rcases List.mem_append.1 ha with ha | ha
 .exact h.rng a ha
 simp at ha; subst ha; exact h3
theorem Gh {x y : AE} (h : Ap p x = some y) : y ∈ B3 p := Ni h
theorem K1 {l : List AE} {x y : AE} (h : y ∈ Dc p l x) : y ∈ l \/ y ∈ B3 p := by
 unfold Dc at h
 cases hx : Ap p x with
 | none => rw [hx] at h; exact .inl h
 | some z =>
  rw [hx] at h
  rcases List.mem_append.1 h with h | h
  .exact .inl h
  simp at h; subst h; exact .inr (Gh hx)
structure FI (p : AH) (st : List Ao) (M k : Nat) (vis : List (AE × Bool)) (g : List AM) (z h : List Int) (l : List AE) : Prop where
 zok : T6 p st z
 gok : V3 p st g
 hold : p.hard = true -> h = []
 port : ∀ x ∈ l, x ∈ B3 p
 lg : g.length <= k
 lh : h.length <= k
 meas : k + l.length + 3 * GB p vis <= M
theorem QU (hv : B7 p) {st : List Ao} {nd : List AM} {M k : Nat} {b : Bool} {vis : List (AE × Bool)} {g : List AM} {z h : List Int} {l : List AE} {x : AE} (hi : FI p st M k vis g z h (l ++ [x])) {s : FS} (hs : s = JG p st nd b vis g z h l x) :
  FI p st M (k + 1) s.2.1 s.2.2.1 s.2.2.2.1 s.2.2.2.2.1 s.2.2.2.2.2 := by
 have hm := hi.meas
 simp only [List.length_append, List.length_cons, List.length_nil] at hm
 have hx : x ∈ B3 p := hi.port x (by simp)
 have hl : ∀ y ∈ l, y ∈ B3 p := fun y hy => hi.port y (by simp [hy])
 have hlg := hi.lg
 have hlh := hi.lh
 have hul := V1 (p := p) (vis := vis) x
 have hhas : Ci p x = true := by
  obtain ⟨i, hi⟩ := List.mem_iff_getElem?.1 hx
  exact hv.join.has i x hi
 unfold JG at hs
 by_cases c : x.elem ∈ st.map (·.elem) \/ BQ vis x = true
 .rw [if_pos c] at hs
  subst hs
  exact ⟨hi.zok, hi.gok, hi.hold, hl, by dsimp only; omega, by dsimp only; omega, by dsimp only; omega⟩
 rw [if_neg c] at hs
 have c1 : x.elem ∉ st.map (·.elem) := fun h => c (.inl h)
 have c2 : BQ vis x = false := by cases hs : BQ vis x with | false => rfl | true => exact absurd (.inr hs) c
 have hlt := Sw hx c2
 by_cases k1 : 0 <= A0 p x /\ p.hard = false
 .rw [if_pos k1] at hs
  subst hs
  refine ⟨hi.zok, hi.gok, fun hh => (by rw [k1.2] at hh; cases hh), hl, by dsimp only; omega, ?_, by dsimp only; omega⟩
  dsimp only
  split
  .omega
  simp; omega
 rw [if_neg k1] at hs
 by_cases k4 : AY p x.elem = 4
 .rw [if_pos k4] at hs
  subst hs
  exact ⟨hi.zok, hi.gok, hi.hold, hl, by dsimp only; omega, by dsimp only; omega, by dsimp only; omega⟩
 rw [if_neg k4] at hs
 have k0 : AY p x.elem ≠ 0 := fun e => by
  obtain ⟨f1, f2, f3⟩ := Dg hhas
  rw [e] at f3
  simp [Bw] at f3
  omega
 have hz := XB (b := b) hi.zok c1 k4 k0
 have p1 : ∀ y, (Dc p l y).length <= l.length + 1 := fun y => Nm l y
 by_cases k2 : AY p x.elem = 2
 .rw [if_pos k2] at hs
  by_cases f0 : x.fin = 0
  .rw [if_pos f0] at hs
   subst hs
   refine ⟨hz, hi.gok, hi.hold, fun y hy => ?_, by dsimp only; omega, by dsimp only; omega, ?_⟩
   .dsimp only at hy
    split at hy
    .rcases K1 hy with hy | hy
     .rcases K1 hy with hy | hy
      .exact hl y hy
      exact hy
     exact hy
    exact hl y hy
   dsimp only
   have q1 := p1 ⟨x.elem, 2⟩
   have q2 := Nm (p := p) (Dc p l ⟨x.elem, 2⟩) ⟨x.elem, 1⟩
   split <;> omega
  rw [if_neg f0] at hs
  by_cases a : (⟨x.elem, x.fin⟩ : AM) ∈ nd \/ (⟨x.elem, x.fin⟩ : AM) ∈ g
  .rw [if_pos a] at hs
   subst hs
   refine ⟨hz, hi.gok, hi.hold, fun y hy => ?_, by dsimp only; omega, by dsimp only; omega, ?_⟩
   .dsimp only at hy
    split at hy
    .rcases K1 hy with hy | hy
     .exact hl y hy
     exact hy
    exact hl y hy
   dsimp only
   have q1 := p1 ⟨x.elem, 0⟩
   split <;> omega
  rw [if_neg a] at hs
  subst hs
  obtain ⟨f1, f2, f3⟩ := Dg hhas
  rw [k2] at f3
  simp [Bw] at f3
  have hw : AZ (3 - x.fin) = 3 - x.fin := by rw [CQ] <;> omega
  refine ⟨hi.zok, ?_, hi.hold, hl, ?_, by dsimp only; omega, by dsimp only; omega⟩
  .dsimp only
   split
   .exact hi.gok
   rename_i hng
   refine ⟨fun m hm => ?_, ?_⟩
   .rcases List.mem_append.1 hm with hm | hm
    .exact hi.gok.ok m hm
    simp at hm; subst hm; exact ⟨c1, k2, by rw [hw]; simp only; omega⟩
   rw [List.pairwise_append]
   refine ⟨hi.gok.nd, by simp, fun m hm q hq => ?_⟩
   simp at hq
   subst hq
   intro he
   simp only at he
   obtain ⟨_, _, hp⟩ := hi.gok.ok m hm
   have e1 : m = ⟨x.elem, m.pos⟩ := by cases m; simp only at he; subst he; rfl
   by_cases e : m.pos = x.fin
   .rw [e] at e1; rw [e1] at hm; exact a (.inr hm)
   have : m.pos = 3 - x.fin := by omega
   rw [this, <- hw] at e1; rw [e1] at hm; exact hng hm
  dsimp only
  split
  .omega
  simp; omega
 rw [if_neg k2] at hs
 cases ht : BC p x.elem x.fin 0 with
 | none =>
  rw [ht] at hs
  subst hs
  exact ⟨hi.zok, hi.gok, hi.hold, hl, by dsimp only; omega, by dsimp only; omega, by dsimp only; omega⟩
 | some o =>
  rw [ht] at hs
  subst hs
  refine ⟨hz, hi.gok, hi.hold, fun y hy => ?_, by dsimp only; omega, by dsimp only; omega, ?_⟩
  .dsimp only at hy
   split at hy
   .rcases K1 hy with hy | hy
    .exact hl y hy
    exact hy
   exact hl y hy
  dsimp only
  have q1 := p1 ⟨x.elem, o⟩
  split <;> omega
end
end Go.E
/- Plain Lean: zone, guards and holds of a road's flank (law FlankApart). No condition. -/
namespace Go.E
open Go
section
variable {p : AH} {n : CE} {r : AO}
end
end Go.E
/- Plain Lean: one call of the document's search for the flank, in a clean form. No condition. -/
namespace Go.E
open Go
theorem Pq (l : List AM) (hl : l.length < 1000000) (x : AM) : Df l x = some (decide (x ∈ l)) := by
 unfold Df
 obtain ⟨b, h1, h2⟩ := Bg (l := l) (step := DN l x) (Post := fun b => b = decide (x ∈ l)) (fun _ y => y ≠ x) (fun good => ⟨false, by simp [DN], by
   symm; rw [decide_eq_false_iff_not]; intro hm
   obtain ⟨i, hi⟩ := List.getElem?_of_mem hm
   exact good i x hi rfl⟩) (fun i a ha _ => by
   have := BZ ha
   by_cases e : a = x
   .exact .inl ⟨true, by simp only [DN, Bd ha, cond_true, Ah, ha, Option.bind_some, e, beq_self_eq_true], by symm; rw [decide_eq_true_iff]; subst e; exact List.mem_of_getElem? ha⟩
   have : (a == x) = false := beq_eq_false_iff_ne.2 e
   exact .inr ⟨by simp only [DN, Bd ha, cond_true, Ah, ha, Option.bind_some, this, cond_false, AT (show i < 1000000000 by omega)], e⟩)
 rw [h1, h2]
section
variable {p : AH} {n : CE} {r : AO}
def EZ (p : AH) (r : AO) (g : List AM) (z h : List Int) (b : Bool) (met : List AE) : Ab := ⟨p, ⟨r.frm, r.to, r.fin, r.steps, r.needs, g, z, h, b⟩, met⟩
def Pr (p : AH) (rc : Ab × AE -> Option Ab) (S : Ab) (y : AE) : Option Ab := match Ap p y with
 | some q => rc (S, q)
 | none => some S
theorem V4 (b : Bool) (z : List Int) (e : Int) (hz : z.length <= 1000) : ((DL z e).bind fun y => bif y then some (true, b, z) else bif decide (12 <= (z.length : Int)) then some (false, true, z) else (BN z [e]).bind fun y' => some (true, b, y') : Option (Bool × Bool × List Int)) = some (BA b z e) := by
 rw [Pm z (by omega)]
 unfold BA
 simp only [Option.bind_some]
 by_cases c : e ∈ z
 .rw [decide_eq_true c, if_pos c]; rfl
 rw [decide_eq_false c, if_neg c]
 by_cases d : 12 <= z.length
 .rw [if_pos d, decide_eq_true (show (12 : Int) <= (z.length : Int) by omega)]; rfl
 rw [if_neg d, decide_eq_false (show ¬ (12 : Int) <= (z.length : Int) by omega)]
 simp only [cond_false, BO (show z.length + [e].length <= 4294967296 by simp; omega), Option.bind_some]
def Rm (p : AH) (r : AO) (rc : Ab × AE -> Option Ab) (g : List AM) (z h : List Int) (b : Bool) (met : List AE) (x : AE) : Option Ab :=
 if x.elem ∈ r.steps.map (·.elem) \/ x ∈ met then some (EZ p r g z h b met)
 else if 0 <= A0 p x /\ p.hard = false then some (EZ p r g z (if A0 p x ∈ h then h else h ++ [A0 p x]) b (met ++ [x]))
 else if AY p x.elem = 4 then some (EZ p r g z h true (met ++ [x]))
 else if AY p x.elem = 2 then
  if x.fin = 0 then
   if (BA b z x.elem).1 then (Pr p rc (EZ p r g (BA b z x.elem).2.2 h (BA b z x.elem).2.1 (met ++ [x])) ⟨x.elem, 1⟩).bind fun S => Pr p rc S ⟨x.elem, 2⟩
   else some (EZ p r g (BA b z x.elem).2.2 h (BA b z x.elem).2.1 (met ++ [x]))
  else if ⟨x.elem, x.fin⟩ ∈ r.needs \/ ⟨x.elem, x.fin⟩ ∈ g then
   if (BA b z x.elem).1 then Pr p rc (EZ p r g (BA b z x.elem).2.2 h (BA b z x.elem).2.1 (met ++ [x])) ⟨x.elem, 0⟩
   else some (EZ p r g (BA b z x.elem).2.2 h (BA b z x.elem).2.1 (met ++ [x]))
  else some (EZ p r (if ⟨x.elem, AZ (3 - x.fin)⟩ ∈ g then g else g ++ [⟨x.elem, AZ (3 - x.fin)⟩]) z h b (met ++ [x]))
 else if (BA b z x.elem).1 then Pr p rc (EZ p r g (BA b z x.elem).2.2 h (BA b z x.elem).2.1 (met ++ [x])) ⟨x.elem, (BC p x.elem x.fin 0).getD 0⟩
 else some (EZ p r g (BA b z x.elem).2.2 h (BA b z x.elem).2.1 (met ++ [x]))
theorem V5 (hv : B7 p) (h1 : r.steps.length <= 12) (h2 : r.needs.length <= 1000) (rc : Ab × AE -> Option Ab) (g : List AM) (z h : List Int) (b : Bool) (met : List AE) (x : AE) (hrc : ¬ (x.elem ∈ r.steps.map (·.elem) \/ x ∈ met) -> ∀ q S', Ap p ⟨x.elem, 1⟩ = some q -> rc (EZ p r g (BA b z x.elem).2.2 h (BA b z x.elem).2.1 (met ++ [x]), q) = some S' -> S'.p = p) (hg : g.length <= 1000) (hz : z.length <= 1000) (hh : h.length <= 1000) (hm : met.length <= 1000) :
  CF rc (EZ p r g z h b met) x = Rm p r rc g z h b met x := by
 have hj := hv.nj
 have hns := hv.ns
 have own := X6 (⟨r.frm, r.to, r.fin, r.steps, r.needs, g, z, h, b⟩ : AO) (show r.steps.length < 1000000 by omega) x.elem
 have tz := V4 b z x.elem hz
 have hmet := BO (l := met) (m := [x]) (by simp; omega)
 unfold CF Rm EZ
 simp only [own, Uy met (show met.length < 1000000 by omega), Option.bind_some]
 have e1 : (bif decide (x.elem ∈ r.steps.map (·.elem)) then some true else some (decide (x ∈ met)) : Option Bool) = some (decide (x.elem ∈ r.steps.map (·.elem) \/ x ∈ met)) := by
  by_cases a : x.elem ∈ r.steps.map (·.elem)
  .rw [decide_eq_true a]; simp [a]
  rw [decide_eq_false a]; simp [a]
 simp only [e1, Option.bind_some]
 by_cases c : x.elem ∈ r.steps.map (·.elem) \/ x ∈ met
 .rw [if_pos c, decide_eq_true c]; rfl
 rw [if_neg c, decide_eq_false c]
 simp only [cond_false, hmet, Option.bind_some, HX p (show p.signals.length < 1000000 by omega)]
 by_cases k1 : 0 <= A0 p x /\ p.hard = false
 .rw [if_pos k1, decide_eq_true k1.1, k1.2]
  simp only [cond_true, Bool.not_false, Option.bind_some, Pm h (show h.length < 1000000 by omega)]
  by_cases m : A0 p x ∈ h
  .rw [decide_eq_true m, if_pos m]; rfl
  rw [decide_eq_false m, if_neg m]
  simp only [Bool.not_false, cond_true, BO (show h.length + [A0 p x].length <= 4294967296 by simp; omega), Option.bind_some]
 rw [if_neg k1]
 have eb : (bif decide (0 <= A0 p x) then some (!p.hard) else some false : Option Bool) = some false := by
  by_cases a : 0 <= A0 p x
  .rw [decide_eq_true a]
   cases hp : p.hard with
   | true => rfl
   | false => exact absurd ⟨a, hp⟩ k1
  rw [decide_eq_false a]; rfl
 simp only [eb, Option.bind_some, cond_false, Ka]
 by_cases k4 : AY p x.elem = 4
 .rw [if_pos k4, k4]; rfl
 rw [if_neg k4]
 have b4 : (AY p x.elem == 4) = false := beq_eq_false_iff_ne.2 k4
 simp only [b4, cond_false, tz, Option.bind_some, CK p (show p.joins.length < 1000000 by omega), Uz]
 by_cases k2 : AY p x.elem = 2
 .rw [if_pos k2, k2]
  simp only [beq_self_eq_true, cond_true]
  by_cases f0 : x.fin = 0
  .rw [if_pos f0]
   have bf : (x.fin == 0) = true := by simp [f0]
   simp only [bf, cond_true, tz, Option.bind_some]
   cases ht : (BA b z x.elem).1 with
   | false => simp only [cond_false, Option.bind_some, Bool.false_eq_true, if_false]
   | true =>
    simp only [cond_true, if_true]
    unfold Pr
    cases hy : Ap p ⟨x.elem, 1⟩ with
    | none =>
     simp only [Option.isSome_none, cond_false, Option.bind_some, CK p (show p.joins.length < 1000000 by omega)]
     cases hy2 : Ap p ⟨x.elem, 2⟩ with
     | none => rfl
     | some q2 =>
      simp only [Option.isSome_some, cond_true, Option.getD_some]
      cases hr2 : rc (⟨p, ⟨r.frm, r.to, r.fin, r.steps, r.needs, g, (BA b z x.elem).2.2, h, (BA b z x.elem).2.1⟩, met ++ [x]⟩, q2) with
      | none => simp only [hr2, Option.bind_none]
      | some S => simp only [hr2, Option.bind_some]
    | some q =>
     simp only [Option.isSome_some, cond_true, Option.getD_some]
     cases hr : rc (⟨p, ⟨r.frm, r.to, r.fin, r.steps, r.needs, g, (BA b z x.elem).2.2, h, (BA b z x.elem).2.1⟩, met ++ [x]⟩, q) with
     | none => rfl
     | some S =>
      obtain ⟨Sp, Sr, Sm⟩ := S
      have hp := hrc c _ _ hy hr
      simp only at hp
      subst hp
      simp only [Option.bind_some, CK Sp (show Sp.joins.length < 1000000 by omega)]
      cases hy2 : Ap Sp ⟨x.elem, 2⟩ with
      | none => rfl
      | some q2 =>
       simp only [Option.isSome_some, cond_true, Option.getD_some, Option.bind_some]
       cases hr2 : rc (⟨Sp, Sr, Sm⟩, q2) with
       | none => simp only [hr2, Option.bind_none]
       | some S => simp only [hr2, Option.bind_some]
  rw [if_neg f0]
  have bf : (x.fin == 0) = false := beq_eq_false_iff_ne.2 f0
  simp only [bf, cond_false, Pq r.needs (show r.needs.length < 1000000 by omega), Pq g (show g.length < 1000000 by omega), Option.bind_some]
  have en : (bif !decide ((⟨x.elem, x.fin⟩ : AM) ∈ r.needs) then some (!decide ((⟨x.elem, x.fin⟩ : AM) ∈ g)) else some false : Option Bool) = some (decide (¬ ((⟨x.elem, x.fin⟩ : AM) ∈ r.needs \/ (⟨x.elem, x.fin⟩ : AM) ∈ g))) := by
   by_cases a : (⟨x.elem, x.fin⟩ : AM) ∈ r.needs
   .simp [a]
   by_cases a2 : (⟨x.elem, x.fin⟩ : AM) ∈ g <;> simp [a, a2]
  simp only [en, Option.bind_some]
  by_cases a : (⟨x.elem, x.fin⟩ : AM) ∈ r.needs \/ (⟨x.elem, x.fin⟩ : AM) ∈ g
  .rw [if_pos a, decide_eq_false (show ¬ ¬ _ from fun hn => hn a)]
   simp only [cond_false, tz, Option.bind_some]
   cases ht : (BA b z x.elem).1 with
   | false => simp only [cond_false, Option.bind_some, Bool.false_eq_true, if_false]
   | true =>
    simp only [cond_true, if_true]
    unfold Pr
    cases hy : Ap p ⟨x.elem, 0⟩ with
    | none => rfl
    | some q =>
     simp only [Option.isSome_some, cond_true, Option.getD_some]
     cases hr : rc (⟨p, ⟨r.frm, r.to, r.fin, r.steps, r.needs, g, (BA b z x.elem).2.2, h, (BA b z x.elem).2.1⟩, met ++ [x]⟩, q) with
     | none => rfl
     | some S => rfl
  rw [if_neg a, decide_eq_true a]
  simp only [cond_true]
  by_cases m : (⟨x.elem, AZ (3 - x.fin)⟩ : AM) ∈ g
  .rw [decide_eq_true m, if_pos m]; rfl
  rw [decide_eq_false m, if_neg m]
  simp only [Bool.not_false, cond_true, BO (show g.length + [(⟨x.elem, AZ (3 - x.fin)⟩ : AM)].length <= 4294967296 by simp; omega), Option.bind_some]
 rw [if_neg k2]
 have b2 : (AY p x.elem == 2) = false := beq_eq_false_iff_ne.2 k2
 simp only [b2, cond_false]
 cases ht : (BA b z x.elem).1 with
 | false => simp only [cond_false, Bool.false_eq_true, if_false]
 | true =>
  simp only [cond_true, if_true]
  unfold Pr
  cases hy : Ap p ⟨x.elem, (BC p x.elem x.fin 0).getD 0⟩ with
  | none => rfl
  | some q =>
   simp only [Option.isSome_some, cond_true, Option.getD_some]
   cases hr : rc (⟨p, ⟨r.frm, r.to, r.fin, r.steps, r.needs, g, (BA b z x.elem).2.2, h, (BA b z x.elem).2.1⟩, met ++ [x]⟩, q) with
   | none => rfl
   | some S => rfl
end
end Go.E
/- Plain Lean: the document's search for the flank and the program's loop: one call is as good as one port on the stack. No condition. -/
namespace Go.E
open Go
section
variable {p : AH} {n : CE} {r : AO}
noncomputable def Md (m : Nat) : Ab × AE -> Option Ab := NV (fun (rc : (Ab × AE) -> Option Ab) (a : (Ab × AE)) => CF rc a.1 a.2) m
structure CI (p : AH) (vis : List (AE × Bool)) (g : List AM) (z h : List Int) (met : List AE) : Prop where
 mt : ∀ y, y ∈ met ↔ BQ vis y = true
 lz : z.length <= 12
 lg : g.length + GB p vis <= 500
 lh : h.length + GB p vis <= 500
 lm : met.length + GB p vis <= 500
theorem Q6 {b : Bool} {z : List Int} {e : Int} (h : z.length <= 12) : (BA b z e).2.2.length <= 12 := by
 unfold BA
 split
 .exact h
 split
 .exact h
 simp; omega
theorem CI.mark {vis : List (AE × Bool)} {g g' : List AM} {z z' h h' : List Int} {met : List AE} {x : AE} (hi : CI p vis g z h met) (hx : x ∈ B3 p) (hv : BQ vis x = false) (hz : z'.length <= 12) (hg : g'.length <= g.length + 1) (hh : h'.length <= h.length + 1) : CI p (Ay x true vis) g' z' h' (met ++ [x]) := by
 have hlt := Sw hx hv
 have h1 := hi.lg; have h2 := hi.lh; have h3 := hi.lm
 refine ⟨fun y => ?_, hz, by omega, by omega, by simp; omega⟩
 rw [List.mem_append, hi.mt, FY]
 simp only [List.mem_singleton]
 exact Or.comm
def XC (p : AH) (n : CE) (r : AO) (m : Nat) (b : Bool) (vis : List (AE × Bool)) (g : List AM) (z h : List Int) (met : List AE) (x : AE) : Prop :=
 ∃ b' vis' g' z' h' met', Md m (EZ p r g z h b met, x) = some (EZ p r g' z' h' b' met') /\ CI p vis' g' z' h' met' /\ GB p vis' <= GB p vis /\
  ∀ l k, FI p r.steps 700 k vis g z h (l ++ [x]) -> ∃ k', AQ (Br n r r.steps r.needs p) (b, vis, g, z, h, l ++ [x]) = AQ (Br n r r.steps r.needs p) (b', vis', g', z', h', l) /\ FI p r.steps 700 k' vis' g' z' h' l
theorem K2 {m : Nat} (ih : ∀ b vis g z h met x, GB p vis < m -> x ∈ B3 p -> CI p vis g z h met -> XC p n r m b vis g z h met x) {b : Bool} {vis : List (AE × Bool)} {g : List AM} {z h : List Int} {met : List AE} (y : AE) (hu : GB p vis < m) (hi : CI p vis g z h met) :
  ∃ b' vis' g' z' h' met', Pr p (Md m) (EZ p r g z h b met) y = some (EZ p r g' z' h' b' met') /\ CI p vis' g' z' h' met' /\ GB p vis' <= GB p vis /\
   ∀ l k, FI p r.steps 700 k vis g z h (Dc p l y) -> ∃ k', AQ (Br n r r.steps r.needs p) (b, vis, g, z, h, Dc p l y) = AQ (Br n r r.steps r.needs p) (b', vis', g', z', h', l) /\ FI p r.steps 700 k' vis' g' z' h' l := by
 unfold Pr Dc
 cases hy : Ap p y with
 | none => exact ⟨b, vis, g, z, h, met, rfl, hi, Nat.le_refl _, fun l k hf => ⟨k, rfl, hf⟩⟩
 | some q => exact ih b vis g z h met q hu (Gh hy) hi
theorem Sx {x : AE} (h : Ci p x = true) (k2 : AY p x.elem ≠ 2) (k4 : AY p x.elem ≠ 4) : ∃ o, BC p x.elem x.fin 0 = some o := by
 obtain ⟨f1, f2, f3⟩ := Dg h
 have h' : Ci p ⟨x.elem, x.fin⟩ = true := h
 unfold BC Bm
 rw [h']
 simp only [if_true]
 by_cases k1 : AY p x.elem = 1
 .rw [if_pos k1]; exact ⟨_, by simp [CL]; rfl⟩
 by_cases k3 : AY p x.elem = 3
 .rw [if_neg k1, if_pos k3]; exact ⟨_, by simp [CL]; rfl⟩
 have : Bw (AY p x.elem) = 0 := by unfold Bw; rw [if_neg k1, if_neg k2, if_neg k3, if_neg k4]
 omega
theorem X8 (hv : B7 p) (hn : Cj p n) (h1 : r.steps.length <= 12) (h2 : r.needs.length <= 1000) : ∀ (m : Nat) (b : Bool) (vis : List (AE × Bool)) (g : List AM) (z h : List Int) (met : List AE) (x : AE), GB p vis < m -> x ∈ B3 p -> CI p vis g z h met -> XC p n r m b vis g z h met x := by
 intro m
 induction m with
 | zero => intro b vis g z h met x hu; omega
 | succ m ih =>
  intro b vis g z h met x hu hx hi
  have lz := hi.lz; have lg := hi.lg; have lh := hi.lh; have lm := hi.lm
  have hhas : Ci p x = true := by
   obtain ⟨i, hi⟩ := List.mem_iff_getElem?.1 hx
   exact hv.join.has i x hi
  have hdec : ¬ (x.elem ∈ r.steps.map (·.elem) \/ x ∈ met) -> BQ vis x = false /\ GB p (Ay x true vis) < m := fun c => by
   have : BQ vis x = false := by
    cases hs : BQ vis x with
    | false => rfl
    | true => exact absurd (.inr ((hi.mt x).2 hs)) c
   have := Sw hx this
   exact ⟨by assumption, by omega⟩
  have hcs : Md (m + 1) (EZ p r g z h b met, x) = Rm p r (Md m) g z h b met x := by
   show CF (Md m) (EZ p r g z h b met) x = _
   refine V5 hv h1 h2 (Md m) g z h b met x (fun c q S' hq hS => ?_) (by omega) (by omega) (by omega) (by omega)
   obtain ⟨hs, hu'⟩ := hdec c
   obtain ⟨b', vis', g', z', h', met', e, _⟩ := ih (BA b z x.elem).2.1 (Ay x true vis) g (BA b z x.elem).2.2 h (met ++ [x]) q hu' (Gh hq) (hi.mark hx hs (Q6 lz) (by omega) (by omega))
   rw [e] at hS; cases hS; rfl
  unfold XC
  rw [hcs]
  have round : ∀ l k, FI p r.steps 700 k vis g z h (l ++ [x]) -> ∀ s, s = JG p r.steps r.needs b vis g z h l x -> AQ (Br n r r.steps r.needs p) (b, vis, g, z, h, l ++ [x]) = AQ (Br n r r.steps r.needs p) s /\ FI p r.steps 700 (k + 1) s.2.1 s.2.2.1 s.2.2.2.1 s.2.2.2.2.1 s.2.2.2.2.2 := fun l k hf s hs => by
   have hm := hf.meas
   simp only [List.length_append, List.length_cons, List.length_nil] at hm
   refine ⟨CT ?_, QU hv hf hs⟩
   rw [hs]
   exact Mc hn h1 h2 b vis g z h l x (by omega) (by omega) (by omega) (by omega)
  unfold Rm
  by_cases c : x.elem ∈ r.steps.map (·.elem) \/ x ∈ met
  .rw [if_pos c]
   refine ⟨b, vis, g, z, h, met, rfl, hi, Nat.le_refl _, fun l k hf => ⟨k + 1, ?_⟩⟩
   have := round l k hf _ rfl
   unfold JG at this
   rw [if_pos (by rw [<- hi.mt]; exact c)] at this
   exact this
  rw [if_neg c]
  obtain ⟨hs, hu'⟩ := hdec c
  have hul := V1 (p := p) (vis := vis) x
  have c' : ¬ (x.elem ∈ r.steps.map (·.elem) \/ BQ vis x = true) := by rw [<- hi.mt]; exact c
  unfold JG at round
  simp only [if_neg c'] at round
  by_cases k1 : 0 <= A0 p x /\ p.hard = false
  .rw [if_pos k1]
   simp only [if_pos k1] at round
   refine ⟨b, Ay x true vis, g, z, _, met ++ [x], rfl, hi.mark hx hs lz (by omega) (by split <;> simp), hul, fun l k hf => ⟨k + 1, round l k hf _ rfl⟩⟩
  rw [if_neg k1]
  simp only [if_neg k1] at round
  by_cases k4 : AY p x.elem = 4
  .rw [if_pos k4]
   simp only [if_pos k4] at round
   exact ⟨true, Ay x true vis, g, z, h, met ++ [x], rfl, hi.mark hx hs lz (by omega) (by omega), hul, fun l k hf => ⟨k + 1, round l k hf _ rfl⟩⟩
  rw [if_neg k4]
  simp only [if_neg k4] at round
  have hc2 := hi.mark (g' := g) (z' := (BA b z x.elem).2.2) (h' := h) hx hs (Q6 lz) (by omega) (by omega)
  have stay : ¬ (BA b z x.elem).1 = true -> ∀ (P : Prop), True := fun _ _ => trivial
  by_cases k2 : AY p x.elem = 2
  .rw [if_pos k2]
   simp only [if_pos k2] at round
   by_cases f0 : x.fin = 0
   .rw [if_pos f0]
    simp only [if_pos f0] at round
    by_cases t1 : (BA b z x.elem).1 = true
    .rw [if_pos t1]
     simp only [if_pos t1] at round
     obtain ⟨b1, v1, g1, z1, q1, m1, e1, i1, u1, s1⟩ := K2 ih (b := (BA b z x.elem).2.1) ⟨x.elem, 1⟩ hu' hc2
     obtain ⟨b2, v2, g2, z2, q2, m2, e2, i2, u2, s2⟩ := K2 ih (b := b1) (vis := v1) ⟨x.elem, 2⟩ (by omega) i1
     refine ⟨b2, v2, g2, z2, q2, m2, by rw [e1]; exact e2, i2, by omega, fun l k hf => ?_⟩
     obtain ⟨r1, r2⟩ := round l k hf _ rfl
     obtain ⟨k3, r3, r4⟩ := s1 _ _ r2
     obtain ⟨k5, r5, r6⟩ := s2 _ _ r4
     exact ⟨k5, r1.trans (r3.trans r5), r6⟩
    rw [if_neg t1]
    simp only [if_neg t1] at round
    exact ⟨_, Ay x true vis, g, _, h, met ++ [x], rfl, hc2, hul, fun l k hf => ⟨k + 1, round l k hf _ rfl⟩⟩
   rw [if_neg f0]
   simp only [if_neg f0] at round
   by_cases a : (⟨x.elem, x.fin⟩ : AM) ∈ r.needs \/ (⟨x.elem, x.fin⟩ : AM) ∈ g
   .rw [if_pos a]
    simp only [if_pos a] at round
    by_cases t1 : (BA b z x.elem).1 = true
    .rw [if_pos t1]
     simp only [if_pos t1] at round
     obtain ⟨b1, v1, g1, z1, q1, m1, e1, i1, u1, s1⟩ := K2 ih (b := (BA b z x.elem).2.1) ⟨x.elem, 0⟩ hu' hc2
     refine ⟨b1, v1, g1, z1, q1, m1, e1, i1, by omega, fun l k hf => ?_⟩
     obtain ⟨r1, r2⟩ := round l k hf _ rfl
     obtain ⟨k3, r3, r4⟩ := s1 _ _ r2
     exact ⟨k3, r1.trans r3, r4⟩
    rw [if_neg t1]
    simp only [if_neg t1] at round
    exact ⟨_, Ay x true vis, g, _, h, met ++ [x], rfl, hc2, hul, fun l k hf => ⟨k + 1, round l k hf _ rfl⟩⟩
   rw [if_neg a]
   simp only [if_neg a] at round
   exact ⟨b, Ay x true vis, _, z, h, met ++ [x], rfl, hi.mark hx hs lz (by split <;> simp) (by omega), hul, fun l k hf => ⟨k + 1, round l k hf _ rfl⟩⟩
  rw [if_neg k2]
  simp only [if_neg k2] at round
  obtain ⟨o, ho⟩ : ∃ o, BC p x.elem x.fin 0 = some o := Sx hhas k2 k4
  simp only [ho] at round
  rw [ho, Option.getD_some]
  by_cases t1 : (BA b z x.elem).1 = true
  .rw [if_pos t1]
   simp only [if_pos t1] at round
   obtain ⟨b1, v1, g1, z1, q1, m1, e1, i1, u1, s1⟩ := K2 ih (b := (BA b z x.elem).2.1) ⟨x.elem, o⟩ hu' hc2
   refine ⟨b1, v1, g1, z1, q1, m1, e1, i1, by omega, fun l k hf => ?_⟩
   obtain ⟨r1, r2⟩ := round l k hf _ rfl
   obtain ⟨k3, r3, r4⟩ := s1 _ _ r2
   exact ⟨k3, r1.trans r3, r4⟩
  rw [if_neg t1]
  simp only [if_neg t1] at round
  exact ⟨_, Ay x true vis, g, _, h, met ++ [x], rfl, hc2, hul, fun l k hf => ⟨k + 1, round l k hf _ rfl⟩⟩
end
end Go.E
/- Plain Lean: the flank of a road: the document's answer and the program's are one (law FlankOfs). No condition. -/
namespace Go.E
open Go
section
variable {p : AH} {n : CE} {r : AO}
theorem X9 (hv : B7 p) (g : List AM) (z h : List Int) (b : Bool) (met : List AE) {x y : AE} (hy : Ap p x = some y) {g' : List AM} {z' h' : List Int} {b' : Bool} {met' : List AE} (hc : Md 1000 (EZ p r g z h b met, y) = some (EZ p r g' z' h' b' met')) :
  IG (EZ p r g z h b met) x.elem x.fin = some (EZ p r g' z' h' b' met') := by
 have hj := hv.nj
 show Cm (NV (fun (rc : (Ab × Int × Int) -> Option Ab) (a : (Ab × Int × Int)) => Cm rc a.1 a.2.1 a.2.2) 999) (EZ p r g z h b met) x.elem x.fin = _
 have hc' : Gz (EZ p r g z h b met) y = some (EZ p r g' z' h' b' met') := hc
 unfold Cm EZ at *
 simp only [CK p (show p.joins.length < 1000000 by omega), hy, Option.bind_some, Option.isSome_some, cond_true, Option.getD_some, hc']
def Yu (p : AH) (r : AO) (i : Int) (g : List AM) (z h : List Int) (b : Bool) (met : List AE) : Int × (List Bl) × (List Bk) × (List A9) × (List B5) × Int × Int × Int × Int × Bool × Int × Int × Int × (List Ao) × (List AM) × Bool × (List AM) × (List Int) × (List Int) × (List AE) :=
 (i, p.elems, p.joins, p.signals, p.lines, p.top, p.brake, p.margin, p.throw, p.hard, r.frm, r.to, r.fin, r.steps, r.needs, b, g, z, h, met)
theorem U1 (hv : B7 p) (hn : Cj p n) (h1 : r.steps.length <= 12) (h2 : r.needs.length <= 1000) (L : List AE) (hL : L.length <= 24) (hLj : ∀ x ∈ L, ∃ y, Ap p x = some y) : ∀ (rest : List AE) (i : Nat) (b : Bool) (vis : List (AE × Bool)) (g : List AM) (z h : List Int) (met : List AE) (k : Nat), L.drop i = rest -> i <= L.length -> CI p vis g z h met -> FI p r.steps 700 k vis g z h (Da p rest).reverse ->
  ∃ R, AQ (Ew L) (Yu p r (i : Int) g z h b met) = some R /\ AQ (Br n r r.steps r.needs p) (b, vis, g, z, h, (Da p rest).reverse) = some R := by
 have hj := hv.nj
 intro rest
 induction rest with
 | nil =>
  intro i b vis g z h met k hd hi hc hf
  have : i = L.length := by have := congrArg List.length hd; simp at this; omega
  subst this
  refine ⟨⟨r.frm, r.to, r.fin, r.steps, r.needs, g, z, h, b⟩, DY ?_, DY rfl⟩
  simp [Ew, Yu]
 | cons x rest ih =>
  intro i b vis g z h met k hd hi hc hf
  have hlt : i < L.length := by have := congrArg List.length hd; simp at this; omega
  have hx : L[i]? = some x := by
   have : (L.drop i)[0]? = some x := by rw [hd]; rfl
   simpa using this
  have hr : L.drop (i + 1) = rest := by
   have : (L.drop i).drop 1 = rest := by rw [hd]; rfl
   rwa [List.drop_drop] at this
  obtain ⟨y, hy⟩ := hLj x (List.mem_of_getElem? hx)
  have hq : (Da p (x :: rest)).reverse = (Da p rest).reverse ++ [y] := by unfold Da; simp [hy]
  have hu : GB p vis < 1000 := by
   have h3 : GB p vis <= (B3 p).length := List.length_filter_le _ _
   have h4 : (B3 p).length = 2 * p.joins.length := E6 _
   omega
  obtain ⟨b', vis', g', z', h', met', e1, i1, u1, s1⟩ := X8 hv hn h1 h2 1000 b vis g z h met y hu (Gh hy) hc
  rw [hq] at hf ⊢
  obtain ⟨k', e2, f2⟩ := s1 _ _ hf
  obtain ⟨R, e3, e4⟩ := ih (i + 1) b' vis' g' z' h' met' k' hr (by omega) i1 f2
  refine ⟨R, ?_, by rw [e2, e4]⟩
  rw [<- e3]
  refine CT ?_
  have hon := X9 (r := r) hv g z h b met hy e1
  unfold EZ at hon
  simp only [Ew, Yu, Bd hx, cond_true, Ah, hx, Option.bind_some]
  rw [hon]
  simp only [Option.bind_some, AT (show i < 1000000000 by omega)]
  simp only [Int.ofNat_lt, hlt, decide_true, cond_true]
theorem XD (hv : B7 p) (hn : Cj p n) (h1 : r.steps.length <= 12) (h2 : r.needs.length <= 1000) : ∃ R, Fy p r = some R /\ FQ n r = some R := by
 have hj := hv.nj
 have hp := J2 (p := p) r.steps
 rw [LN hv hn h1 h2]
 unfold Fy
 simp only [BO (show ([] : List Ao).length + r.steps.length <= 4294967296 by simp; omega), BO (show ([] : List AM).length + r.needs.length <= 4294967296 by simp; omega), List.nil_append, Option.bind_some, Vy hv r (show r.steps.length <= 1000 by omega)]
 have h3 : GB p [] <= (B3 p).length := List.length_filter_le _ _
 have h4 : (B3 p).length = 2 * p.joins.length := E6 _
 refine U1 hv hn h1 h2 (DH p r.steps) (by omega) (fun x hx => IQ hx) (DH p r.steps) 0 false [] [] [] [] [] 0 rfl (Nat.zero_le _) ⟨fun y => by simp [BQ, AW], by simp, by simp; omega, by simp; omega, by simp; omega⟩ ⟨⟨by simp, by simp, by simp, by simp⟩, ⟨by simp, by simp⟩, fun _ => rfl, fun y hy => ?_, by simp, by simp, ?_⟩
 .have := List.mem_reverse.1 hy
  obtain ⟨x, hx, rfl⟩ := List.mem_map.1 this
  obtain ⟨y, hy⟩ := IQ hx
  rw [hy]
  exact Gh hy
 simp only [Da, List.length_reverse, List.length_map]
 omega
end
end Go.E
/- Plain Lean: whether a road is ready, by the program and by the document (law FlankReady). No condition. -/
namespace Go.E
open Go
end Go.E
/- Plain Lean: a road that is ready is so no more when one thing is otherwise (law FlankOne). No condition. -/
namespace Go.E
open Go
section
variable {p : AH} {n : CE} {r : AO}
structure Zo (p : AH) (st : List Ao) (nd : List AM) : Prop where
 ok : ∀ m ∈ nd, m.elem ∈ st.map (·.elem) /\ AY p m.elem = 2 /\ (m.pos = 1 \/ m.pos = 2)
 nd : nd.Pairwise (fun a b => a.elem ≠ b.elem)
theorem Sy {s : Int} (h : r ∈ EY p s) : Zo p r.steps r.needs := by
 obtain ⟨sg, nd, l, h1, h2, h3, h4, h5, h6, h7⟩ := Hq (D7 h).1
 have := Nh (by simp) (by simp) h4
 rw [h7]
 exact ⟨fun m hm => by simpa using this.1 m hm, this.2.1⟩
theorem U2 {s : Int} (h : r ∈ EY p s) (st : Ao) (hst : st ∈ r.steps) : AY p st.elem ≠ 0 := fun e => by
 have := (Vz h).1 st hst
 unfold Su at this
 omega
theorem YA {st : List Ao} {nd g : List AM} (h1 : Zo p st nd) (h2 : V3 p st g) : (∀ m ∈ nd ++ g, 0 <= m.elem /\ m.elem < p.elems.length /\ (m.pos = 1 \/ m.pos = 2)) /\ (nd ++ g).Pairwise (fun a b => a.elem ≠ b.elem) := by
 refine ⟨fun m hm => ?_, ?_⟩
 .have hk : AY p m.elem = 2 /\ (m.pos = 1 \/ m.pos = 2) := by
   rcases List.mem_append.1 hm with hm | hm
   .exact (h1.ok m hm).2
   exact (h2.ok m hm).2
  have := J1 (p := p) (e := m.elem) (by rw [hk.1]; decide)
  exact ⟨this.1, this.2, hk.2⟩
 rw [List.pairwise_append]
 refine ⟨h1.nd, h2.nd, fun a ha b hb e => ?_⟩
 have := (h1.ok a ha).1
 rw [e] at this
 exact (h2.ok b hb).1 this
theorem Sz {n : Int} {k : Nat} (h0 : 0 <= n) (hk : 0 < k) : ∃ j : Nat, j < k /\ QE n (k : Int) = some (j : Int) := by
 obtain ⟨m, rfl⟩ := Int.eq_ofNat_of_zero_le h0
 refine ⟨m % k, Nat.mod_lt _ hk, ?_⟩
 unfold QE
 rw [if_neg (by omega)]
 rfl
end
end Go.E
/- Plain Lean: what a road's flank keeps: nobody comes in but from its zone (law FlankKeeps). No condition. -/
namespace Go.E
open Go
section
variable {p : AH} {n : CE} {r : AO}
theorem YB {e i x o : Int} (h : AY p e = 2) (hi : i ≠ 0) (ht : BC p e i x = some o) : o = 0 /\ x = i := by
 unfold BC Bm at ht
 split at ht
 .rw [if_neg (by omega), if_neg (by omega)] at ht
  simp only [CL] at ht
  split at ht
  .rename_i hc
   cases ht
   rcases hc with hc | hc
   .exact absurd hc hi
   exact ⟨rfl, hc.symm⟩
  cases ht
 cases ht
theorem YC {e x o : Int} (h : AY p e = 2) (ht : BC p e 0 x = some o) : o = 1 \/ o = 2 := by
 unfold BC Bm at ht
 split at ht
 .rw [if_neg (by omega), if_neg (by omega), if_pos rfl] at ht
  simp only [CL] at ht
  split at ht
  .cases ht; exact .inl rfl
  split at ht
  .cases ht; exact .inr rfl
  cases ht
 cases ht
def T7 (st : List Ao) (vis : List (AE × Bool)) (l : List AE) (y : AE) : Prop := y ∈ l \/ BQ vis y = true \/ y.elem ∈ st.map (·.elem)
structure S0 (p : AH) (nd g : List AM) (z h : List Int) (at_ : AE -> Prop) (x : AE) : Prop where
 held : 0 <= A0 p x /\ p.hard = false -> A0 p x ∈ h
 gate : ¬ (0 <= A0 p x /\ p.hard = false) -> AY p x.elem ≠ 4
 toe : ¬ (0 <= A0 p x /\ p.hard = false) -> AY p x.elem = 2 -> x.fin = 0 -> x.elem ∈ z /\ ∀ o, (o = 1 \/ o = 2) -> ∀ y, Ap p ⟨x.elem, o⟩ = some y -> at_ y
 leg : ¬ (0 <= A0 p x /\ p.hard = false) -> AY p x.elem = 2 -> x.fin ≠ 0 -> (x.elem ∈ z /\ ∀ y, Ap p ⟨x.elem, 0⟩ = some y -> at_ y) \/ (⟨x.elem, AZ (3 - x.fin)⟩ : AM) ∈ g
 other : ¬ (0 <= A0 p x /\ p.hard = false) -> AY p x.elem ≠ 2 -> ∀ o, BC p x.elem x.fin 0 = some o -> x.elem ∈ z /\ ∀ y, Ap p ⟨x.elem, o⟩ = some y -> at_ y
theorem S0.mono {nd g g' : List AM} {z z' h h' : List Int} {a a' : AE -> Prop} {x : AE} (hk : S0 p nd g z h a x) (hg : ∀ m ∈ g, m ∈ g') (hz : ∀ m ∈ z, m ∈ z') (hh : ∀ m ∈ h, m ∈ h') (ha : ∀ y, a y -> a' y) : S0 p nd g' z' h' a' x :=
 ⟨fun c => hh _ (hk.held c), hk.gate, fun c k f => ⟨hz _ (hk.toe c k f).1, fun o ho y hy => ha _ ((hk.toe c k f).2 o ho y hy)⟩,
  fun c k f => (hk.leg c k f).imp (fun q => ⟨hz _ q.1, fun y hy => ha _ (q.2 y hy)⟩) (hg _), fun c k o ho => ⟨hz _ (hk.other c k o ho).1, fun y hy => ha _ ((hk.other c k o ho).2 y hy)⟩⟩
structure KI (p : AH) (st : List Ao) (nd : List AM) (b : Bool) (vis : List (AE × Bool)) (g : List AM) (z h : List Int) (l : List AE) : Prop where
 seen : b = false -> ∀ x, BQ vis x = true -> S0 p nd g z h (T7 st vis l) x
 init : ∀ x y, x ∈ DH p st -> Ap p x = some y -> T7 st vis l y
theorem KI.next {st : List Ao} {nd : List AM} {b b' : Bool} {vis vis' : List (AE × Bool)} {g g' : List AM} {z z' h h' : List Int} {l l' : List AE} {x : AE} (hi : KI p st nd b vis g z h (l ++ [x]))
  (hb : b' = false -> b = false) (hv : ∀ y, BQ vis y = true -> BQ vis' y = true) (hv2 : ∀ y, BQ vis' y = true -> BQ vis y = true \/ y = x) (hl : ∀ y ∈ l, y ∈ l') (hx : BQ vis' x = true \/ x.elem ∈ st.map (·.elem))
  (hg : ∀ m ∈ g, m ∈ g') (hz : ∀ m ∈ z, m ∈ z') (hh : ∀ m ∈ h, m ∈ h') (hr : b' = false -> BQ vis x = false -> BQ vis' x = true -> S0 p nd g' z' h' (T7 st vis' l') x) : KI p st nd b' vis' g' z' h' l' := by
 have ha : ∀ y, T7 st vis (l ++ [x]) y -> T7 st vis' l' y := by
  rintro y (hy | hy | hy)
  .rcases List.mem_append.1 hy with hy | hy
   .exact .inl (hl y hy)
   simp at hy; subst hy; exact .inr hx
  .exact .inr (.inl (hv y hy))
  exact .inr (.inr hy)
 refine ⟨fun hb' y hy => ?_, fun y q hy hq => ha q (hi.init y q hy hq)⟩
 cases hs : BQ vis y with
 | true => exact (hi.seen (hb hb') y hs).mono hg hz hh ha
 | false =>
  rcases hv2 y hy with hy2 | rfl
  .rw [hs] at hy2; cases hy2
  exact hr hb' hs hy
theorem Nn {b : Bool} {z : List Int} {e m : Int} (hm : m ∈ z) : m ∈ (BA b z e).2.2 := by
 unfold BA
 split
 .exact hm
 split
 .exact hm
 exact List.mem_append_left _ hm
theorem FZ {b : Bool} {z : List Int} {e : Int} (h : (BA b z e).2.1 = false) : b = false /\ (BA b z e).1 = true /\ e ∈ (BA b z e).2.2 := by
 unfold BA at *
 split
 .rename_i c; rw [if_pos c] at h; exact ⟨h, rfl, c⟩
 rename_i c
 rw [if_neg c] at h
 split
 .rename_i d; rw [if_pos d] at h; cases h
 rename_i d; rw [if_neg d] at h; exact ⟨h, rfl, by simp⟩
theorem Jg {l : List AE} {x y : AE} (h : y ∈ l) : y ∈ Dc p l x := by
 unfold Dc
 split
 .exact List.mem_append_left _ h
 exact h
theorem K3 {l : List AE} {x y : AE} (h : Ap p x = some y) : y ∈ Dc p l x := by
 unfold Dc
 rw [h]
 simp
theorem YD {st : List Ao} {nd : List AM} {b : Bool} {vis : List (AE × Bool)} {g : List AM} {z h : List Int} {l : List AE} {x : AE} (hi : KI p st nd b vis g z h (l ++ [x])) {s : FS} (hs : s = JG p st nd b vis g z h l x) :
  KI p st nd s.1 s.2.1 s.2.2.1 s.2.2.2.1 s.2.2.2.2.1 s.2.2.2.2.2 := by
 have sx : BQ (Ay x true vis) x = true := (FY vis x x).2 (.inl rfl)
 have s1 : ∀ y, BQ vis y = true -> BQ (Ay x true vis) y = true := fun y hy => (FY vis x y).2 (.inr hy)
 have s2 : ∀ y, BQ (Ay x true vis) y = true -> BQ vis y = true \/ y = x := fun y hy => ((FY vis x y).1 hy).symm
 unfold JG at hs
 by_cases c : x.elem ∈ st.map (·.elem) \/ BQ vis x = true
 .rw [if_pos c] at hs
  subst hs
  exact hi.next (fun h => h) (fun _ h => h) (fun _ h => .inl h) (fun _ h => h) c.symm (fun _ h => h) (fun _ h => h) (fun _ h => h) fun _ hn hy => (by rw [hn] at hy; cases hy)
 rw [if_neg c] at hs
 by_cases k1 : 0 <= A0 p x /\ p.hard = false
 .rw [if_pos k1] at hs
  subst hs
  refine hi.next (fun h => h) s1 s2 (fun _ h => h) (.inl sx) (fun _ h => h) (fun _ h => h) (fun m hm => ?_) fun _ _ _ => ⟨fun _ => ?_, fun q => absurd k1 q, fun q => absurd k1 q, fun q => absurd k1 q, fun q => absurd k1 q⟩
  .dsimp only; split
   .exact hm
   exact List.mem_append_left _ hm
  dsimp only; split
  .assumption
  simp
 rw [if_neg k1] at hs
 by_cases k4 : AY p x.elem = 4
 .rw [if_pos k4] at hs
  subst hs
  exact hi.next (fun h => (by cases h)) s1 s2 (fun _ h => h) (.inl sx) (fun _ h => h) (fun _ h => h) (fun _ h => h) fun h => (by cases h)
 rw [if_neg k4] at hs
 by_cases k2 : AY p x.elem = 2
 .rw [if_pos k2] at hs
  by_cases f0 : x.fin = 0
  .rw [if_pos f0] at hs
   subst hs
   refine hi.next (fun hb => (FZ hb).1) s1 s2 (fun y hy => ?_) (.inl sx) (fun _ h => h) (fun _ h => Nn h) (fun _ h => h) fun hb _ _ => ⟨fun q => absurd q k1, fun _ => k4, fun _ _ _ => ⟨(FZ hb).2.2, fun o ho y hy => .inl ?_⟩, fun _ _ f => absurd f0 f, fun _ q => absurd k2 q⟩
   .dsimp only; split
    .exact Jg (Jg hy)
    exact hy
   dsimp only
   rw [if_pos (FZ hb).2.1]
   rcases ho with rfl | rfl
   .exact K3 hy
   exact Jg (K3 hy)
  rw [if_neg f0] at hs
  by_cases a : (⟨x.elem, x.fin⟩ : AM) ∈ nd \/ (⟨x.elem, x.fin⟩ : AM) ∈ g
  .rw [if_pos a] at hs
   subst hs
   refine hi.next (fun hb => (FZ hb).1) s1 s2 (fun y hy => ?_) (.inl sx) (fun _ h => h) (fun _ h => Nn h) (fun _ h => h) fun hb _ _ => ⟨fun q => absurd q k1, fun _ => k4, fun _ _ f => absurd f f0, fun _ _ _ => .inl ⟨(FZ hb).2.2, fun y hy => .inl ?_⟩, fun _ q => absurd k2 q⟩
   .dsimp only; split
    .exact Jg hy
    exact hy
   dsimp only
   rw [if_pos (FZ hb).2.1]
   exact K3 hy
  rw [if_neg a] at hs
  subst hs
  refine hi.next (fun h => h) s1 s2 (fun _ h => h) (.inl sx) (fun m hm => ?_) (fun _ h => h) (fun _ h => h) fun hb _ _ => ⟨fun q => absurd q k1, fun _ => k4, fun _ _ f => absurd f f0, fun _ _ _ => .inr ?_, fun _ q => absurd k2 q⟩
  .dsimp only; split
   .exact hm
   exact List.mem_append_left _ hm
  dsimp only; split
  .assumption
  simp
 rw [if_neg k2] at hs
 cases ht : BC p x.elem x.fin 0 with
 | none =>
  rw [ht] at hs
  subst hs
  exact hi.next (fun h => h) s1 s2 (fun _ h => h) (.inl sx) (fun _ h => h) (fun _ h => h) (fun _ h => h) fun hb _ _ => ⟨fun q => absurd q k1, fun _ => k4, fun _ q => absurd q k2, fun _ q => absurd q k2, fun _ _ o ho => (by rw [ht] at ho; cases ho)⟩
 | some o =>
  rw [ht] at hs
  subst hs
  refine hi.next (fun hb => (FZ hb).1) s1 s2 (fun y hy => ?_) (.inl sx) (fun _ h => h) (fun _ h => Nn h) (fun _ h => h) fun hb _ _ => ⟨fun q => absurd q k1, fun _ => k4, fun _ q => absurd q k2, fun _ q => absurd q k2, fun _ _ o' ho => ?_⟩
  .dsimp only; split
   .exact Jg hy
   exact hy
  rw [ht] at ho
  cases ho
  refine ⟨(FZ hb).2.2, fun y hy => .inl ?_⟩
  dsimp only
  rw [if_pos (FZ hb).2.1]
  exact K3 hy
theorem Ta (hv : B7 p) (hn : Cj p n) (h1 : r.steps.length <= 12) (h2 : r.needs.length <= 1000) : ∃ g z h b, FQ n r = some ⟨r.frm, r.to, r.fin, r.steps, r.needs, g, z, h, b⟩ /\ T6 p r.steps z /\ V3 p r.steps g /\ (p.hard = true -> h = []) /\ g.length <= 700 /\ h.length <= 700 /\
  ∃ vis, KI p r.steps r.needs b vis g z h [] := by
 have hj := hv.nj
 have hp := J2 (p := p) r.steps
 rw [LN hv hn h1 h2]
 obtain ⟨R, e1, g, z, h, b, rfl, e2⟩ := Dz (step := Br n r r.steps r.needs p) (Post := fun R => ∃ g z h b, R = (⟨r.frm, r.to, r.fin, r.steps, r.needs, g, z, h, b⟩ : AO) /\ T6 p r.steps z /\ V3 p r.steps g /\ (p.hard = true -> h = []) /\ g.length <= 700 /\ h.length <= 700 /\ ∃ vis, KI p r.steps r.needs b vis g z h [])
  (fun k s => FI p r.steps 700 k s.2.1 s.2.2.1 s.2.2.2.1 s.2.2.2.2.1 s.2.2.2.2.2 /\ KI p r.steps r.needs s.1 s.2.1 s.2.2.1 s.2.2.2.1 s.2.2.2.2.1 s.2.2.2.2.2) 700 (s := (false, [], [], [], [], (Da p (DH p r.steps)).reverse)) (by
   rintro k ⟨b, vis, g, z, h, l⟩ ⟨hi, hk⟩
   have hm := hi.meas
   have hlg := hi.lg
   have hlh := hi.lh
   have hzl := hi.zok.len
   dsimp only at hm hlg hlh hzl hi hk
   rcases List.eq_nil_or_concat l with rfl | ⟨l', x, rfl⟩
   .left
    exact ⟨_, rfl, g, z, h, b, rfl, hi.zok, hi.gok, hi.hold, by omega, by omega, vis, hk⟩
   .right
    rw [List.concat_eq_append] at hi hm hk ⊢
    simp only [List.length_append, List.length_cons, List.length_nil] at hm
    refine ⟨by omega, _, Mc hn h1 h2 b vis g z h l' x (by omega) (by omega) (by omega) (by omega), QU hv hi rfl, YD hk rfl⟩) (by
   refine ⟨⟨⟨by simp, by simp, by simp, by simp⟩, ⟨by simp, by simp⟩, fun _ => rfl, fun y hy => ?_, by simp, by simp, ?_⟩, fun _ x hx => ?_, fun x y hx hy => .inl ?_⟩
   .have := List.mem_reverse.1 hy
    obtain ⟨x, hx, rfl⟩ := List.mem_map.1 this
    obtain ⟨y, hy⟩ := IQ hx
    rw [hy]
    exact Gh hy
   .have h3 : GB p [] <= (B3 p).length := List.length_filter_le _ _
    have h4 : (B3 p).length = 2 * p.joins.length := E6 _
    simp only [Da, List.length_reverse, List.length_map]
    omega
   .simp [BQ, AW] at hx
   rw [List.mem_reverse]
   exact List.mem_map.2 ⟨x, hx, by rw [hy]; rfl⟩)
 exact ⟨g, z, h, b, e1, e2⟩
end
end Go.E
/- Plain Lean: whether a road's flank keeps all others out, told without an order (Ps, V6), and the program's answer. No condition. -/
namespace Go.E
open Go
def Ix (nl : List AM) (e : Int) : Option Int := (nl.find? fun m => m.elem == e).map (·.pos)
def U3 (lay : Int -> Option Int) (e : Int) (w : Co) : List Int := if w.pos = 0 \/ lay e = none \/ lay e = some w.pos then [w.out] else []
def IT (p : AH) (lay : Int -> Option Int) (x : AE) : List Int := (Bm p x.elem x.fin).flatMap (U3 lay x.elem)
def J4 (p : AH) (holds : List Int) (x : AE) : Prop := p.hard = false /\ 0 <= A0 p x /\ A0 p x ∈ holds
instance (p : AH) (holds : List Int) (x : AE) : Decidable (J4 p holds x) := by unfold J4; infer_instance
def K4 (p : AH) (lay : Int -> Option Int) (zone : List Int) (x : AE) : Prop := AY p x.elem ≠ 4 /\ (IT p lay x ≠ [] -> x.elem ∈ zone)
instance (p : AH) (lay : Int -> Option Int) (zone : List Int) (x : AE) : Decidable (K4 p lay zone x) := by unfold K4; infer_instance
inductive Mf (p : AH) (lay : Int -> Option Int) (holds : List Int) (st : List Ao) : AE -> Prop
 | init {x y : AE} : x ∈ DH p st -> Ap p x = some y -> Mf p lay holds st y
 | step {x y : AE} {o : Int} : Mf p lay holds st x -> x.elem ∉ st.map (·.elem) -> ¬ J4 p holds x -> o ∈ IT p lay x -> Ap p ⟨x.elem, o⟩ = some y -> Mf p lay holds st y
def Ps (p : AH) (lay : Int -> Option Int) (holds zone : List Int) (st : List Ao) : Prop := ∀ x, Mf p lay holds st x -> x.elem ∉ st.map (·.elem) -> ¬ J4 p holds x -> K4 p lay zone x
def Mg (nl : List AM) : Prop := ∀ a ∈ nl, ∀ b ∈ nl, a.elem = b.elem -> a.pos = b.pos
structure V6 (p : AH) (r : AO) : Prop where
 cons : Mg (r.needs ++ r.guards)
 guard : ∀ m ∈ r.guards, AY p m.elem = 2 /\ (m.pos = 1 \/ m.pos = 2)
 zone : ∀ e ∈ r.zone, 0 <= e /\ e < p.elems.length /\ e ∉ r.steps.map (·.elem)
 hold : ∀ s ∈ r.holds, 0 <= s /\ s < p.signals.length
 kept : Ps p (Ix (r.needs ++ r.guards)) r.holds r.zone r.steps
theorem U4 {p : AH} {lay : Int -> Option Int} {x : AE} {o : Int} : o ∈ IT p lay x ↔ ∃ w ∈ Bm p x.elem x.fin, (w.pos = 0 \/ lay x.elem = none \/ lay x.elem = some w.pos) /\ w.out = o := by
 unfold IT
 rw [List.mem_flatMap]
 constructor
 .rintro ⟨w, hw, ho⟩
  unfold U3 at ho
  split at ho
  .simp at ho; exact ⟨w, hw, ‹_›, ho.symm⟩
  cases ho
 rintro ⟨w, hw, hc, rfl⟩
 exact ⟨w, hw, by unfold U3; rw [if_pos hc]; simp⟩
section
variable {p : AH} {n : CE} {r : AO} {lay : Int -> Option Int} {holds zone : List Int} {st : List Ao}
structure GI (p : AH) (lay : Int -> Option Int) (holds zone : List Int) (st : List Ao) (V : AE -> Prop) (q : List AE) : Prop where
 arr : ∀ x ∈ q, Mf p lay holds st x
 full : ∀ x, V x -> x.elem ∉ st.map (·.elem) -> ¬ J4 p holds x -> K4 p lay zone x /\ ∀ o ∈ IT p lay x, ∀ y, Ap p ⟨x.elem, o⟩ = some y -> y ∈ q \/ V y
 init : ∀ x y, x ∈ DH p st -> Ap p x = some y -> y ∈ q \/ V y
theorem GI.done {V : AE -> Prop} (h : GI p lay holds zone st V []) : Ps p lay holds zone st := by
 have key : ∀ x, Mf p lay holds st x -> V x := by
  intro x hx
  induction hx with
  | init h1 h2 => exact (h.init _ _ h1 h2).resolve_left (by simp)
  | step _ h2 h3 h4 h5 ih => exact ((h.full _ ih h2 h3).2 _ h4 _ h5).resolve_left (by simp)
 exact fun x hx h1 h2 => (h.full x (key x hx) h1 h2).1
theorem GI.bad {V : AE -> Prop} {x : AE} {q : List AE} (h : GI p lay holds zone st V (x :: q)) (h1 : x.elem ∉ st.map (·.elem)) (h2 : ¬ J4 p holds x) (hb : ¬ K4 p lay zone x) : ¬ Ps p lay holds zone st :=
 fun hk => hb (hk x (h.arr x (by simp)) h1 h2)
theorem GI.next {V V' : AE -> Prop} {x : AE} {q q' : List AE} (h : GI p lay holds zone st V (x :: q)) (hV : ∀ y, V y -> V' y) (hx : V' x) (hV2 : ∀ y, V' y -> V y \/ y = x) (hq : ∀ y ∈ q, y ∈ q') (hq2 : ∀ y ∈ q', Mf p lay holds st y)
  (hf : ¬ V x -> x.elem ∉ st.map (·.elem) -> ¬ J4 p holds x -> K4 p lay zone x /\ ∀ o ∈ IT p lay x, ∀ y, Ap p ⟨x.elem, o⟩ = some y -> y ∈ q' \/ V' y) : GI p lay holds zone st V' q' := by
 have keep : ∀ y, y ∈ x :: q \/ V y -> y ∈ q' \/ V' y := by
  rintro y (hy | hy)
  .rcases List.mem_cons.1 hy with rfl | hy
   .exact .inr hx
   exact .inl (hq y hy)
  exact .inr (hV y hy)
 refine ⟨hq2, fun y hy h1 h2 => ?_, fun a b ha hb => keep b (h.init a b ha hb)⟩
 by_cases c : V y
 .have := h.full y c h1 h2
  exact ⟨this.1, fun o ho z hz => keep z (this.2 o ho z hz)⟩
 rcases hV2 y hy with hy2 | rfl
 .exact absurd hy2 c
 exact hf c h1 h2
def S2 (p : AH) (e : Int) (l : List Int) : List AE := l.flatMap fun o => match Ap p ⟨e, o⟩ with
 | some y => [y]
 | none => []
theorem Pt {e o : Int} {l : List Int} {y : AE} : y ∈ S2 p e l ↔ ∃ o ∈ l, Ap p ⟨e, o⟩ = some y := by
 unfold S2
 rw [List.mem_flatMap]
 constructor
 .rintro ⟨o, ho, hy⟩
  cases hx : Ap p ⟨e, o⟩ with
  | none => rw [hx] at hy; cases hy
  | some z => rw [hx] at hy; simp at hy; subst hy; exact ⟨o, ho, hx⟩
 rintro ⟨o, ho, hy⟩
 exact ⟨o, ho, by rw [hy]; simp⟩
theorem GI.go {V V' : AE -> Prop} {x : AE} {q : List AE} (h : GI p lay holds zone st V (x :: q)) (h1 : x.elem ∉ st.map (·.elem)) (h2 : ¬ J4 p holds x) (hg : K4 p lay zone x) (hV : ∀ y, V' y ↔ V y \/ y = x) : GI p lay holds zone st V' (q ++ S2 p x.elem (IT p lay x)) := by
 have hx := h.arr x (by simp)
 refine h.next (fun y hy => (hV y).2 (.inl hy)) ((hV x).2 (.inr rfl)) (fun y hy => (hV y).1 hy) (fun y hy => List.mem_append_left _ hy) (fun y hy => ?_) (fun _ _ _ => ⟨hg, fun o ho y hy => .inl (List.mem_append_right _ (Pt (o := o) |>.2 ⟨o, ho, hy⟩))⟩)
 rcases List.mem_append.1 hy with hy | hy
 .exact h.arr y (by simp [hy])
 obtain ⟨o, ho, hy⟩ := (Pt (o := 0)).1 hy
 exact .step hx h1 h2 ho hy
end
end Go.E
/- Plain Lean: a road that is guarded keeps all out, whatever way other points lie; what a flank keeps is guarded. No condition. -/
namespace Go.E
open Go
theorem V7 {nl : List AM} {e : Int} : Ix nl e = none ↔ ∀ m ∈ nl, m.elem ≠ e := by
 unfold Ix
 rw [Option.map_eq_none_iff, List.find?_eq_none]
 simp only [beq_iff_eq]
theorem XE {nl : List AM} {e q : Int} (h : Ix nl e = some q) : (⟨e, q⟩ : AM) ∈ nl := by
 unfold Ix at h
 obtain ⟨m, hm, rfl⟩ := Option.map_eq_some_iff.1 h
 have h1 := List.mem_of_find?_eq_some hm
 have h2 := List.find?_some hm
 simp only [beq_iff_eq] at h2
 subst h2
 exact h1
theorem V8 {nl : List AM} (hc : Mg nl) {m : AM} (hm : m ∈ nl) : Ix nl m.elem = some m.pos := by
 cases h : Ix nl m.elem with
 | none => exact absurd rfl (V7.1 h m hm)
 | some q => rw [hc m hm _ (XE h) rfl]
theorem U5 {nl : List AM} (h : nl.Pairwise (fun a b => a.elem ≠ b.elem)) : Mg nl := by
 intro a ha b hb e
 induction nl with
 | nil => cases ha
 | cons c l ih =>
  rw [List.pairwise_cons] at h
  rcases List.mem_cons.1 ha with rfl | ha'
  .rcases List.mem_cons.1 hb with rfl | hb'
   .rfl
   exact absurd e (h.1 b hb')
  rcases List.mem_cons.1 hb with rfl | hb'
  .exact absurd e.symm (h.1 a ha')
  exact ih h.2 ha' hb'
section
variable {p : AH} {n : CE} {r : AO} {lay : Int -> Option Int} {holds zone : List Int} {st : List Ao} {lie : List Int} {shut : List Bool}
theorem U6 {nd g : List AM} {z h : List Int} {vis : List (AE × Bool)} (hj : FW p) (hk : KI p st nd false vis g z h []) (hc : Mg (nd ++ g)) : Ps p (Ix (nd ++ g)) h z st := by
 have fin : ∀ y, T7 st vis [] y -> BQ vis y = true \/ y.elem ∈ st.map (·.elem) := fun y h => by
  rcases h with h | h
  .cases h
  exact h
 have main : ∀ x, Mf p (Ix (nd ++ g)) h st x -> BQ vis x = true -> x.elem ∉ st.map (·.elem) -> ¬ J4 p h x -> K4 p (Ix (nd ++ g)) z x /\ ∀ o ∈ IT p (Ix (nd ++ g)) x, ∀ y, Ap p ⟨x.elem, o⟩ = some y -> BQ vis y = true \/ y.elem ∈ st.map (·.elem) := by
  intro x hx hsx h1 h2
  have hr := hk.seen rfl x hsx
  have kn : ¬ (0 <= A0 p x /\ p.hard = false) := fun q => h2 ⟨q.2, q.1, hr.held q⟩
  have hback : ∀ o ∈ IT p (Ix (nd ++ g)) x, x.elem ∈ z /\ ∀ y, Ap p ⟨x.elem, o⟩ = some y -> BQ vis y = true \/ y.elem ∈ st.map (·.elem) := by
   intro o ho
   obtain ⟨w, hw, hp, rfl⟩ := U4.1 ho
   obtain ⟨f1, f2, f3, f4, f5, f6⟩ := Je hw
   by_cases k2 : AY p x.elem = 2
   .by_cases f0 : x.fin = 0
    .have ho : w.out = 1 \/ w.out = 2 := by
      rw [f0] at hw
      exact YC k2 (J0 hw (.inr rfl))
     have := hr.toe kn k2 f0
     exact ⟨this.1, fun y hy => fin _ (this.2 _ ho y hy)⟩
    obtain ⟨ho, hq⟩ := YB k2 f0 (J0 hw (.inr rfl) : BC p x.elem x.fin w.pos = some w.out)
    rcases hr.leg kn k2 f0 with hl | hl
    .exact ⟨hl.1, fun y hy => fin _ (hl.2 y (by rw [ho] at hy; exact hy))⟩
    exfalso
    have hs := V8 hc (List.mem_append_right nd hl)
    simp only at hs
    rw [hs] at hp
    have hw3 : AZ (3 - x.fin) = 3 - x.fin := by rw [k2] at f4; simp [Bw] at f4; rw [CQ] <;> omega
    rw [k2] at f4
    simp [Bw] at f4
    rw [hw3, hq] at hp
    rcases hp with hp | hp | hp
    .omega
    .cases hp
    simp only [Option.some.injEq] at hp; omega
   have h0 : w.pos = 0 := by
    by_cases c : w.pos = 0
    .exact c
    exact absurd (f6 c).1 k2
   have := hr.other kn k2 w.out (J0 hw (.inl h0))
   exact ⟨this.1, fun y hy => fin _ (this.2 y hy)⟩
  refine ⟨⟨hr.gate kn, fun hne => ?_⟩, fun o ho y hy => (hback o ho).2 y hy⟩
  obtain ⟨o, ho⟩ := List.exists_mem_of_ne_nil _ hne
  exact (hback o ho).1
 have seen : ∀ x, Mf p (Ix (nd ++ g)) h st x -> BQ vis x = true \/ x.elem ∈ st.map (·.elem) := by
  intro x hx
  induction hx with
  | init h1 h2 => exact fin _ (hk.init _ _ h1 h2)
  | step hx h1 h2 h3 h4 ih =>
   exact (main _ hx (ih.resolve_right h1) h1 h2).2 _ h3 _ h4
 exact fun x hx h1 h2 => (main x hx ((seen x hx).resolve_right h1) h1 h2).1
end
end Go.E
/- Plain Lean: whether a road is guarded: the program's answer and the document's are one. No condition. -/
namespace Go.E
open Go
def Zp (p : AH) (m : AM) : Prop := AY p m.elem = 2 /\ (m.pos = 1 \/ m.pos = 2)
instance (p : AH) (m : AM) : Decidable (Zp p m) := by unfold Zp; infer_instance
section
variable {p : AH} {n : CE} {r : AO}
end
end Go.E
/- Plain Lean: whether a road is guarded, by the program and by the document (law ProofGuards); what is guarded keeps (law ProofKeeps). No condition. -/
namespace Go.E
open Go
section
variable {p : AH} {n : CE} {r : AO}
end
end Go.E
/- Plain Lean: what is wrong first with a chart of a valid plan: the program's answer and the document's are one (checkF). No condition. -/
namespace Go.E
open Go
section
variable {p : AH} {n : CE}
theorem V9 (hv : B7 p) {a b : AO} (ha : T5 p a = true) (hb : T5 p b = true) (h : a.steps = b.steps) : a.frm = b.frm := by
 obtain ⟨s1, n1, l1, a1, a2, a3, a4, a5, a6, a7⟩ := Hq ha
 obtain ⟨s2, n2, l2, b1, b2, b3, b4, b5, b6, b7⟩ := Hq hb
 have key : ∀ (sg : A9) (st : List Ao) (nd : List AM), 1 <= st.length -> CP p sg.at_.elem (Ap p sg.at_) [] [] st = some nd -> ∃ q, st.head? = some q /\ Ap p sg.at_ = some ⟨q.elem, q.in_⟩ := fun sg st nd hl hs => by
  cases st with
  | nil => simp at hl
  | cons q r =>
   cases hx : Ap p sg.at_ with
   | none => rw [hx] at hs; simp [CP] at hs
   | some x =>
    rw [hx] at hs
    unfold CP at hs
    split at hs
    .cases hs
    rename_i c
    have e1 : q.elem = x.elem := Decidable.byContradiction fun h => c (.inl h)
    have e2 : q.in_ = x.fin := Decidable.byContradiction fun h => c (.inr (.inl h))
    exact ⟨q, rfl, by rw [e1, e2]⟩
 obtain ⟨q1, c1, c2⟩ := key s1 a.steps n1 a2 a4
 obtain ⟨q2, d1, d2⟩ := key s2 b.steps n2 b2 b4
 rw [h] at c1
 rw [c1] at d1
 cases d1
 have e1 := Q5 hv.join c2
 have e2 := Q5 hv.join d2
 rw [e1] at e2
 have e3 : s1.at_ = s2.at_ := by injection e2
 obtain ⟨f1, f2⟩ := WA a1
 obtain ⟨g1, g2⟩ := WA b1
 have r1 := hv.sig.reads _ _ f1
 have r2 := hv.sig.reads _ _ g1
 rw [e3, r2] at r1
 rw [f2, g2]; omega
end
end Go.E
/- Plain Lean: the chart of a valid plan with one thing of one road turned (law ProofTurned). No condition. -/
namespace Go.E
open Go
section
variable {p : AH} {n : CE}
theorem U7 (h : GY p = some true) : Do p = some 0 := by
 unfold GY at h
 cases h1 : Ii p with
 | none => rw [h1] at h; cases h
 | some b =>
  rw [h1] at h
  cases b with
  | false => cases h
  | true =>
   cases h2 : Do p with
   | none => rw [h2] at h; cases h
   | some e =>
    rw [h2] at h
    simp only [Option.bind_some, cond_true, Option.some.injEq, beq_iff_eq] at h
    rw [h]
noncomputable def CM (n : CE) (r : AO) : AO := (FQ n r).getD r
structure YE (p : AH) (r q : AO) : Prop where
 frm : q.frm = r.frm
 to : q.to = r.to
 fin : q.fin = r.fin
 steps : q.steps = r.steps
 needs : q.needs = r.needs
 zone : T6 p r.steps q.zone
 guards : V3 p r.steps q.guards
 hard : p.hard = true -> q.holds = []
 lg : q.guards.length <= 700
 lh : q.holds.length <= 700
 keep : ∃ vis, KI p r.steps r.needs q.bare vis q.guards q.zone q.holds []
theorem Lu (hv : B7 p) (hn : Cj p n) {r : AO} (h1 : r.steps.length <= 12) (h2 : r.needs.length <= 1000) : FQ n r = some (CM n r) /\ YE p r (CM n r) := by
 obtain ⟨g, z, h, b, e1, e2, e3, e4, e5, e6, e7⟩ := Ta hv hn h1 h2
 have hR2 : CM n r = ⟨r.frm, r.to, r.fin, r.steps, r.needs, g, z, h, b⟩ := by unfold CM; rw [e1]; rfl
 refine ⟨by rw [hR2, e1], ?_⟩
 rw [hR2]
 exact ⟨rfl, rfl, rfl, rfl, rfl, e2, e3, e4, e5, e6, e7⟩
theorem XF (hv : B7 p) (hn : Cj p n) {r : AO} (h1 : r.steps.length <= 12) (h2 : r.needs.length <= 1000) : Fy p r = some (CM n r) := by
 obtain ⟨R, R1, R2⟩ := XD hv hn h1 h2
 have hR : CM n r = R := by unfold CM; rw [R2]; rfl
 rw [hR, R1]
theorem Yy {α : Type} (l m : List α) (x y : α) : KN (l ++ x :: m) (l.length : Int) y = l ++ y :: m := by
 show (l ++ x :: m).set (l.length : Int).toNat y = _
 rw [Int.toNat_natCast]
 simp
theorem WB {l : List AO} (f : AO -> AO) {β : Type} {step : Int × List AO -> Option ((Int × List AO) ⊕ β)} {fin : List AO -> β} (hl : l.length <= 1000)
  (h0 : ∀ c, c.length = l.length -> step ((l.length : Int), c) = some (.inr (fin c))) (h1 : ∀ (i : Nat) r c, l[i]? = some r -> c[i]? = some r -> c.length = l.length -> step ((i : Int), c) = some (.inl (((i + 1 : Nat) : Int), KN c (i : Int) (f r)))) : AQ step ((0 : Int), l) = some (fin (l.map f)) := by
 obtain ⟨b, h2, rfl⟩ := B8 (l := l) (step := step) (Post := fun b => b = fin (l.map f)) (fun i c => c = (l.take i).map f ++ l.drop i) (c := l)
  (fun c hc => ⟨fin c, h0 c (by rw [hc]; simp), by rw [hc, List.take_length, List.drop_length, List.append_nil]⟩)
  (fun i r c hr hc => by
   have hi := BZ hr
   have hd : l.drop i = r :: l.drop (i + 1) := by
    obtain ⟨h, e⟩ := List.getElem?_eq_some_iff.1 hr
    rw [List.drop_eq_getElem_cons h, e]
   have hlen : ((l.take i).map f).length = i := by simp; omega
   have hci : c[i]? = some r := by
    rw [hc, hd, List.getElem?_append_right (by omega), hlen]; simp
   refine .inr ⟨KN c (i : Int) (f r), h1 i r c hr hci (by rw [hc]; simp; omega), ?_⟩
   have := Yy ((l.take i).map f) (l.drop (i + 1)) r (f r)
   rw [hlen] at this
   rw [hc, hd, this, List.take_add_one, hr]
   simp)
  (by simp)
 exact h2
theorem WC (hv : B7 p) (hn : Cj p n) (h0 : Do p = some 0) : ∃ c e, Dr p = some (c, e) /\ (e = 0 -> (C8 p).2 = 0 /\ c = ⟨p, (C8 p).1.map (CM n)⟩) := by
 unfold Dr
 simp only [h0, Option.bind_some, bne_self_eq_false, cond_false, Ur hv]
 by_cases c : (C8 p).2 = 0
 .have c' : ((C8 p).2 != 0) = false := by simp [c]
  rw [c']
  simp only [cond_false]
  have hl : (C8 p).1.length <= 64 := by
   unfold C8
   split
   .simp
   simp only; omega
  refine ⟨_, 0, ?_, fun _ => ⟨c, rfl⟩⟩
  exact WB (l := (C8 p).1) (CM n) (step := Ex p) (fin := fun l => ((⟨p, l⟩ : MS), (0 : Int))) (by omega) (fun q hq => by
   have d : decide (((C8 p).1.length : Int) < (q.length : Int)) = false := decide_eq_false (by omega)
   simp only [Ex, d, cond_false]) (fun i r q hr hq hlen => by
   have hi := BZ hr
   obtain ⟨s, hs⟩ := Sq (List.mem_of_getElem? hr)
   have hro := D7 hs
   have f2 := XF hv hn (r := r) (Hr hs) (by have := hro.2.2.2.2.2.2.2.2; omega)
   have d : decide ((i : Int) < (q.length : Int)) = true := decide_eq_true (by omega)
   simp only [Ex, d, cond_true, Ah, hq, Option.bind_some, f2, AT (show i < 1000000000 by omega)])
 have c' : ((C8 p).2 != 0) = true := by simp [c]
 rw [c']
 exact ⟨_, _, rfl, fun h => absurd h c⟩
end
end Go.E
/- Plain Lean: what is built is fine (law ProofBuilt); what a chart without one of its roads lacks, and with one of them twice (law ProofLacks). No condition. -/
namespace Go.E
open Go
section
variable {p : AH} {n : CE}
theorem flank_holds (hv : B7 p) (hn : Cj p n) {r : AO} (h1 : r.steps.length <= 12) (h2 : r.needs.length <= 1000) : ∃ R, FQ n r = some R /\ ∀ s ∈ R.holds, 0 <= s /\ s < (p.signals.length : Int) := by
 have hj := hv.nj
 have hp := J2 (p := p) r.steps
 rw [LN hv hn h1 h2]
 exact Dz (step := Br n r r.steps r.needs p) (Post := fun R => ∀ s ∈ R.holds, 0 <= s /\ s < (p.signals.length : Int))
  (fun k s => FI p r.steps 700 k s.2.1 s.2.2.1 s.2.2.2.1 s.2.2.2.2.1 s.2.2.2.2.2 /\ ∀ q ∈ s.2.2.2.2.1, 0 <= q /\ q < (p.signals.length : Int)) 700 (s := (false, [], [], [], [], (Da p (DH p r.steps)).reverse)) (by
   rintro k ⟨b, vis, g, z, h, l⟩ ⟨hi, hh⟩
   have hm := hi.meas
   have hlg := hi.lg
   have hlh := hi.lh
   have hzl := hi.zok.len
   dsimp only at hm hlg hlh hzl hi hh
   rcases List.eq_nil_or_concat l with rfl | ⟨l', x, rfl⟩
   .left
    exact ⟨_, rfl, hh⟩
   .right
    rw [List.concat_eq_append] at hi hm ⊢
    simp only [List.length_append, List.length_cons, List.length_nil] at hm
    refine ⟨by omega, _, Mc hn h1 h2 b vis g z h l' x (by omega) (by omega) (by omega) (by omega), QU hv hi rfl, ?_⟩
    unfold JG
    split
    .exact hh
    split
    .rename_i c
     dsimp only
     split
     .exact hh
     intro q hq
     rcases List.mem_append.1 hq with hq | hq
     .exact hh q hq
     rw [List.mem_singleton.1 hq]
     rcases Nc p x with e | e <;> omega
    split
    .exact hh
    split
    .split
     .exact hh
     split <;> exact hh
    split <;> exact hh) (by
   refine ⟨⟨⟨by simp, by simp, by simp, by simp⟩, ⟨by simp, by simp⟩, fun _ => rfl, fun y hy => ?_, by simp, by simp, ?_⟩, by simp⟩
   .have := List.mem_reverse.1 hy
    obtain ⟨x, hx, rfl⟩ := List.mem_map.1 this
    obtain ⟨y, hy⟩ := IQ hx
    rw [hy]
    exact Gh hy
   have h3 : GB p [] <= (B3 p).length := List.length_filter_le _ _
   have h4 : (B3 p).length = 2 * p.joins.length := E6 _
   simp only [Da, List.length_reverse, List.length_map]
   omega)
theorem S3 (hv : B7 p) (hn : Cj p n) {s : Int} {r : AO} (hr : r ∈ EY p s) (hb : (CM n r).bare = false) : V6 p (CM n r) := by
 have h1 := Hr hr
 have h2 : r.needs.length <= 1000 := by have := (D7 hr).2.2.2.2.2.2.2.2; omega
 obtain ⟨e1, f⟩ := Lu hv hn h1 h2
 obtain ⟨R, e2, hh⟩ := flank_holds hv hn h1 h2
 rw [e1] at e2
 cases e2
 obtain ⟨vis, hk⟩ := f.keep
 rw [hb] at hk
 obtain ⟨hok, hpw⟩ := YA (Sy hr) f.guards
 have hc : Mg (r.needs ++ (CM n r).guards) := U5 hpw
 refine ⟨by rw [f.needs]; exact hc, fun m hm => (f.guards.ok m hm).2, fun e he => ?_, hh, ?_⟩
 .have := J1 (f.zone.rng e he)
  exact ⟨this.1, this.2, by rw [f.steps]; exact (f.zone.own e he).1⟩
 rw [f.needs, f.steps]
 exact U6 hv.join hk hc
theorem Q8 (hv : B7 p) {s s' : Int} {a b : AO} (ha : a ∈ EY p s) (hb : b ∈ EY p s') (h : a.steps = b.steps) : a = b /\ s = s' := by
 have fa := D7 ha
 have fb := D7 hb
 have e := V9 hv fa.1 fb.1 h
 obtain ⟨s1, n1, l1, a1, a2, a3, a4, a5, a6, a7⟩ := Hq fa.1
 obtain ⟨s2, n2, l2, b1, b2, b3, b4, b5, b6, b7⟩ := Hq fb.1
 rw [e, b1] at a1
 have e1 : s2 = s1 := Option.some.inj a1
 subst e1
 rw [h, b4] at a4
 have e2 : n2 = n1 := Option.some.inj a4
 rw [h, b5] at a5
 have e3 : l2 = l1 := Option.some.inj a5
 subst e3
 have e4 : a.fin = b.fin /\ a.to = b.to := by
  unfold MX at a6 b6
  split at a6
  .rename_i k
   rw [if_pos k] at b6
   simp only [decide_eq_true_eq] at a6 b6
   exact ⟨by rw [a6.1, b6.1], by rw [a6.2, b6.2]⟩
  rename_i k
  rw [if_neg k] at b6
  split at a6
  .rename_i k2
   rw [if_pos k2] at b6
   simp only [decide_eq_true_eq] at a6 b6
   exact ⟨by rw [a6.1, b6.1], by rw [a6.2, b6.2]⟩
  rename_i k2
  rw [if_neg k2] at b6
  simp only [Bool.and_eq_true, decide_eq_true_eq] at a6 b6
  exact ⟨by rw [a6.2.1, b6.2.1], by rw [a6.2.2, b6.2.2]⟩
 refine ⟨W1.2 ⟨e, e4.2, e4.1, h, by rw [a7, b7, e2], by rw [fa.2.2.1, fb.2.2.1], by rw [fa.2.2.2.1, fb.2.2.2.1], by rw [fa.2.2.2.2.1, fb.2.2.2.2.1], by rw [fa.2.2.2.2.2.1, fb.2.2.2.2.2.1]⟩, ?_⟩
 rw [<- fa.2.1, <- fb.2.1, e]
theorem K5 (hv : B7 p) : ∀ i : Nat, (Hg p i).Nodup /\ ∀ r ∈ Hg p i, ∃ s : Nat, s < i /\ r ∈ EY p (s : Int)
 | 0 => ⟨by simp [Hg], by simp [Hg]⟩
 | i + 1 => by
  obtain ⟨h1, h2⟩ := K5 hv i
  rw [Nf]
  refine ⟨List.nodup_append.2 ⟨h1, Vw _, fun a ha b hb e => ?_⟩, fun r hr => ?_⟩
  .obtain ⟨s, hs, hm⟩ := h2 a ha
   have := (Q8 hv hm hb (by rw [e])).2
   omega
  rcases List.mem_append.1 hr with hr | hr
  .obtain ⟨s, hs, hm⟩ := h2 r hr
   exact ⟨s, by omega, hm⟩
  exact ⟨i, by omega, hr⟩
theorem Yz {s : Nat} {r : AO} (hs : s < p.signals.length) (hr : r ∈ EY p (s : Int)) : r ∈ Kb p := by
 unfold Kb Hg
 exact List.mem_flatMap.2 ⟨s, List.mem_range.2 hs, hr⟩
structure Rn (p : AH) (n : CE) (l : List AO) : Prop where
 eq : l = (Kb p).map (CM n)
 len : l.length <= 64
theorem Rn.inj (hv : B7 p) (hn : Cj p n) {l : List AO} (hb : Rn p n l) {i k : Nat} {a b : AO} (ha : l[i]? = some a) (hk : l[k]? = some b) (h : a.steps = b.steps) : i = k := by
 rw [hb.eq, List.getElem?_map] at ha hk
 obtain ⟨x, hx, rfl⟩ := Option.map_eq_some_iff.1 ha
 obtain ⟨y, hy, rfl⟩ := Option.map_eq_some_iff.1 hk
 obtain ⟨s, hs, hm⟩ := (K5 hv p.signals.length).2 x (List.mem_of_getElem? hx)
 obtain ⟨s', hs', hm'⟩ := (K5 hv p.signals.length).2 y (List.mem_of_getElem? hy)
 obtain ⟨_, f⟩ := Lu hv hn (Hr hm) (show x.needs.length <= 1000 by have := (D7 hm).2.2.2.2.2.2.2.2; omega)
 obtain ⟨_, f'⟩ := Lu hv hn (Hr hm') (show y.needs.length <= 1000 by have := (D7 hm').2.2.2.2.2.2.2.2; omega)
 rw [f.steps, f'.steps] at h
 have e := (Q8 hv hm hm' h).1
 subst e
 have hnd := (K5 hv p.signals.length).1
 obtain ⟨h1, h2⟩ := List.getElem?_eq_some_iff.1 hx
 obtain ⟨h3, h4⟩ := List.getElem?_eq_some_iff.1 hy
 exact (List.getElem_inj hnd).1 (h2.trans h4.symm)
theorem Rn.have (hv : B7 p) (hn : Cj p n) {l : List AO} (hb : Rn p n l) {s : Nat} {r : AO} (hs : s < p.signals.length) (hr : r ∈ EY p (s : Int)) : ∃ q ∈ l, q = CM n r /\ q.steps = r.steps := by
 obtain ⟨_, f⟩ := Lu hv hn (Hr hr) (show r.needs.length <= 1000 by have := (D7 hr).2.2.2.2.2.2.2.2; omega)
 exact ⟨_, by rw [hb.eq]; exact List.mem_map.2 ⟨r, Yz hs hr, rfl⟩, rfl, f.steps⟩
end
end Go.E
/- Plain Lean: the document's check takes each valid plan. No condition. -/
namespace Go.E
open Go
theorem T8 {α β : Type} {l : List α} {step : Int -> Option (Int ⊕ β)} {b : β} (h0 : step (l.length : Int) = some (.inr b)) (h1 : ∀ (i : Nat) a, l[i]? = some a -> step (i : Int) = some (.inl ((i + 1 : Nat) : Int))) : AQ step 0 = some b := by
 obtain ⟨c, hc, rfl⟩ := Bg (l := l) (step := step) (Post := fun c => c = b) (fun _ _ => True) (fun _ => ⟨b, h0, rfl⟩) (fun i a ha _ => .inr ⟨h1 i a ha, trivial⟩)
 exact hc
theorem S4 (p : AH) (hf : D6 p) (hj : FW p) (l : List Int) (hl : l.length <= 60) (h : Lt p l) : ∃ b, Ds p l = some b /\ b.2 = true /\ b.1.length = l.length := by
 have q2 := hf.joins; have q3 := h.one
 have h0 : ¬ (l.length : Int) = 0 := by omega
 unfold Ds
 simp only [DX, if_neg h0]
 obtain ⟨b, e1, e2⟩ : ∃ b, (if (l.length : Int) = 1 then some ([0], true) else AQ (By p l) ((-1), 1)) = some b /\ b.2 = true /\ b.1.length = l.length := by
  by_cases h1 : (l.length : Int) = 1
  .rw [if_pos h1]; exact ⟨_, rfl, rfl, by simp; omega⟩
  rw [if_neg h1]
  obtain ⟨a, b, r, rfl⟩ : ∃ a b r, l = a :: b :: r := by
   match l, h0, h1 with
   | [], h0, _ => simp at h0
   | [a], _, h1 => simp at h1
   | a :: b :: r, _, _ => exact ⟨a, b, r, rfl⟩
  have i0 : Ak (a :: b :: r) 0 = some a := rfl
  have i1 : Ak (a :: b :: r) 1 = some b := rfl
  obtain ⟨hs, hc⟩ := h.chain a b r rfl
  have st : ∀ (o e : Int), 0 <= e -> By p (a :: b :: r) (o, e) = some (.inl (if Fs p ⟨a, e⟩ b then e else o, AZ (e - 1))) := by
   intro o e he
   simp only [By, he, decide_true, cond_true, i0, i1, Option.bind_some, CK p (show p.joins.length < 1000000 by omega), Nj]
   by_cases hm : Fs p ⟨a, e⟩ b <;> simp [hm]
  have two : AQ (By p (a :: b :: r)) ((-1), 1) = AQ (By p (a :: b :: r)) (Cz p a b, -1) := by
   rw [CT (st (-1) 1 (by omega)), show AZ (1 - 1) = 0 by decide, CT (st _ 0 (by omega)), show AZ (0 - 1) = -1 by decide]
   rfl
  have hsd : decide (Cz p a b < 0) = false := by simp; omega
  obtain ⟨t, t1, t2⟩ : ∃ t, AQ (Cv p (a :: b :: r)) (Cz p a b, 1, [AZ (1 - Cz p a b)]) = some t /\ t.2 = true /\ t.1.length = (a :: b :: r).length := by
   refine Dz (fun k s => k + 1 <= (a :: b :: r).length /\ s.2.1 = ((k + 1 : Nat) : Int) /\ s.2.2.length = k + 1 /\ ∀ e, (a :: b :: r)[k]? = some e -> IN p s.1 e ((a :: b :: r).drop (k + 1))) (a :: b :: r).length ?_ ⟨by simp, rfl, by simp, fun e he => by cases he; exact hc⟩
   rintro k ⟨o, i, ins⟩ ⟨hk, hi, hins, hch⟩
   simp only at hi hins hch
   subst hi
   generalize hL : a :: b :: r = L at *
   by_cases he : k + 1 = L.length
   .have : decide (((k + 1 : Nat) : Int) < L.length) = false := by simp; omega
    exact .inl ⟨(ins, true), by simp only [Cv, this, cond_false], rfl, by rw [hins, he]⟩
   have hlt : k + 1 < L.length := by omega
   have hd : decide (((k + 1 : Nat) : Int) < L.length) = true := by simp; omega
   have ha : L[k]? = some (L[k]'(by omega)) := List.getElem?_eq_getElem _
   have hb : L[k + 1]? = some (L[k + 1]'hlt) := List.getElem?_eq_getElem _
   have e1 : AZ (((k + 1 : Nat) : Int) - 1) = (k : Int) := by rw [CQ] <;> omega
   have := hch _ ha
   rw [List.drop_eq_getElem_cons hlt] at this
   obtain ⟨y, hn, hy, hrest⟩ := Q9 this
   obtain ⟨f1, f2, _⟩ := Dg (hj.next hn)
   have e2 : (y.elem != L[k + 1]'hlt) = false := by simp [hy]
   refine .inr ⟨by omega, (1 - y.fin, ((k + 1 + 1 : Nat) : Int), ins ++ [y.fin]), ?_, by omega, rfl, by simp; omega, fun e he' => ?_⟩
   .simp only [Cv, hd, cond_true, e1, Ah, ha, hb, Option.bind_some, CK p (show p.joins.length < 1000000 by omega), hn, Option.isSome_some, Option.getD_some, Bool.not_true, cond_false, e2]
    rw [BO (by simp; omega), AT (show k + 1 < 1000000000 by omega), CQ (n := 1 - y.fin) (by omega) (by omega)]; rfl
   rw [hb] at he'; cases he'; exact hrest
  refine ⟨t, ?_, t2⟩
  rw [two, GO]
  simp only [By, show decide ((0 : Int) <= -1) = false by decide, cond_false, hsd, t1]
  rfl
 refine ⟨b, T8 (l := l) ?_ (fun i e he => ?_), e2⟩
 .simp only [Dx, B6, cond_false, DX, e1]; rfl
 have := BZ he
 simp only [Dx, Bd he, cond_true, Ah, he, Option.bind_some, DZ, h.track i e he, bne_self_eq_false, cond_false, AT (show i < 1000000000 by omega)]
end Go.E
/- Plain Lean: the program's check answers of every plan that is not too long; what it takes is valid. No condition. -/
namespace Go.E
open Go
end Go.E
/- Plain Lean: the program and the document say the same of what is wrong first with a chart (ProofChecks). No condition. -/
namespace Go.E
open Go
end Go.E
/- Plain Lean: what a book of locks says, whatever the order in which its maps are gone through. No condition. -/
namespace Go.E
open Go
def QM (m : List (Int × List Int)) (e : Int) : Int := match m.find? (fun p => decide (e ∈ p.2)) with
 | some p => p.1
 | none => -1
def Y0 (m : List (Int × List Int)) (e : Int) : Prop := ∀ p ∈ m, ∀ q ∈ m, e ∈ p.2 -> e ∈ q.2 -> p.1 = q.1
theorem T9 {m : List (Int × List Int)} {e : Int} (h : Y0 m e) {q : Int × List Int} (hq : q ∈ m) (he : e ∈ q.2) : QM m e = q.1 := by
 unfold QM
 cases hf : m.find? (fun p => decide (e ∈ p.2)) with
 | none => exact absurd he (by simpa using List.find?_eq_none.1 hf q hq)
 | some p => exact h p (List.mem_of_find?_eq_some hf) q hq (by simpa using List.find?_some hf) he
theorem UA {m : List (Int × List Int)} {e : Int} (h : ∀ p ∈ m, e ∉ p.2) : QM m e = -1 := by
 unfold QM
 cases hf : m.find? (fun p => decide (e ∈ p.2)) with
 | none => rfl
 | some p => exact absurd (by simpa using List.find?_some hf) (h p (List.mem_of_find?_eq_some hf))
theorem Oj (b : AV) (e : Int) (h1 : Y0 b.steps e) (hl : ∀ p ∈ b.steps, p.2.length < 1000000) : Bj b e = some (QM b.steps e) := by
 unfold Bj
 refine Kw (fun s => (∀ p ∈ s, p ∈ b.steps) /\ ∀ p ∈ b.steps, e ∈ p.2 -> p ∈ s) (fun s hs h0 => ?_) (fun s j y hs hy => ?_) ⟨fun p hp => hp, fun p hp _ => hp⟩
 .simp only [Ey]
  rw [UA fun p hp he => by have := hs.2 p hp he; rw [h0] at this; cases this]
 have hmem := hs.1 y (List.mem_of_getElem? hy)
 have hp := IK hy
 simp only [FR, IR y.2 (hl y hmem) e, Option.bind_some]
 by_cases he : e ∈ y.2
 .exact .inl (by rw [decide_eq_true he, T9 h1 hmem he]; rfl)
 refine .inr ⟨s.eraseIdx j, by rw [decide_eq_false he]; rfl, rfl, fun p h => hs.1 p (hp.mem_iff.1 (List.mem_cons_of_mem _ h)), fun p h h' => ?_⟩
 rcases List.mem_cons.1 (hp.mem_iff.2 (hs.2 p h h')) with rfl | h2
 .exact absurd h' he
 exact h2
def XG (m : List (Int × List Int)) (e : Int) : List Int := Gu ((m.filter fun p => decide (e ∈ p.2)).map (·.1))
theorem Ol (b : AV) (e : Int) (hm : b.zone.length < 1000000) (hl : ∀ p ∈ b.zone, p.2.length < 1000000) : CS b e = some (XG b.zone e) := by
 unfold CS
 refine Kw (fun s => (∀ p ∈ s.2, p ∈ b.zone) /\ (s.1 ++ (s.2.filter fun p => decide (e ∈ p.2)).map (·.1)).Perm ((b.zone.filter fun p => decide (e ∈ p.2)).map (·.1))) (fun s hs h0 => ?_) (fun s j y hs hy => ?_) ⟨fun p hp => hp, by simp⟩
 .obtain ⟨a, r⟩ := s
  simp only at h0 hs
  subst h0
  have hp := hs.2
  simp only [List.filter_nil, List.map_nil, List.append_nil] at hp
  have hlen := hp.length_eq
  have h2 := List.length_filter_le (fun p => decide (e ∈ p.2)) b.zone
  rw [List.length_map] at hlen
  have e1 : II a = some (Gu a) := by unfold II; rw [if_pos (by omega)]
  simp only [Ez, e1, Option.bind_some, Option.map_some, ON hp]
  rfl
 obtain ⟨a, r⟩ := s
 obtain ⟨h1, h2⟩ := hs
 simp only at h1 h2 hy ⊢
 have hmem := h1 y (List.mem_of_getElem? hy)
 have hp := IK hy
 have hlen := h2.length_eq
 have h3 := List.length_filter_le (fun p => decide (e ∈ p.2)) b.zone
 simp only [List.length_append, List.length_map] at hlen
 have hsub : ∀ p ∈ r.eraseIdx j, p ∈ b.zone := fun p h => h1 p (hp.mem_iff.1 (List.mem_cons_of_mem _ h))
 have hpf := ((hp.filter fun p => decide (e ∈ p.2)).map (·.1))
 simp only [FT, IR y.2 (hl y hmem) e, Option.bind_some]
 by_cases he : e ∈ y.2
 .refine .inr ⟨(a ++ [y.1], r.eraseIdx j), ?_, rfl, hsub, ?_⟩
  .rw [decide_eq_true he, BO (by simp; omega)]; rfl
  rw [List.filter_cons_of_pos (by simpa using he)] at hpf
  simp only [List.append_assoc, List.singleton_append]
  exact (List.Perm.append_left a hpf).trans h2
 refine .inr ⟨(a, r.eraseIdx j), by rw [decide_eq_false he]; rfl, rfl, hsub, ?_⟩
 rw [List.filter_cons_of_neg (by simpa using he)] at hpf
 exact (List.Perm.append_left a hpf).trans h2
def Dp (l : List AM) (e : Int) : Option Int := (l.find? fun x => x.elem == e).map (·.pos)
def IU (b : AV) (o : Int) : List AM := (AW b.needs o).getD [] ++ (AW b.guards o).getD []
def Cq (b : AV) (e : Int) (m : List (Int × List AM)) : List Int := m.filterMap fun p => Dp (IU b p.1) e
def Zw (b : AV) (e : Int) : Prop := ∀ x ∈ Cq b e b.needs, ∀ y ∈ Cq b e b.needs, x = y
theorem WD (l : List AM) (e : Int) (hl : l.length < 1000000) {β : Type} {step : Int -> Option (Int ⊕ β)} {no : β} {yes : Int -> β} (h0 : step (l.length : Int) = some (.inr no))
  (h1 : ∀ (i : Nat) x, l[i]? = some x -> step (i : Int) = bif x.elem == e then some (.inr (yes x.pos)) else some (.inl ((i + 1 : Nat) : Int))) : AQ step 0 = some (match Dp l e with | some q => yes q | none => no) := by
 obtain ⟨b, hb, hp⟩ := Bg (l := l) (step := step) (Post := fun b => b = match Dp l e with | some q => yes q | none => no) (fun _ x => x.elem ≠ e) (fun g => ⟨no, h0, by
  have : l.find? (fun x => x.elem == e) = none := List.find?_eq_none.2 fun x hx => by
   obtain ⟨i, hi⟩ := List.mem_iff_getElem?.1 hx
   simpa using g i x hi
  simp only [Dp, this, Option.map_none]⟩) (fun i x hx hg => by
  rw [h1 i x hx]
  by_cases he : x.elem = e
  .refine .inl ⟨yes x.pos, by simp [he], ?_⟩
   have : l.find? (fun x => x.elem == e) = some x := by
    rw [List.find?_eq_some_iff_getElem]
    exact ⟨by simpa using he, i, BZ hx, (List.getElem?_eq_some_iff.1 hx).2, fun j hj => by
     have := hg j _ hj (List.getElem?_eq_getElem (by have := BZ hx; omega))
     simpa using this⟩
   simp only [Dp, this, Option.map_some]
  exact .inr ⟨by rw [beq_eq_false_iff_ne.2 he]; rfl, he⟩)
 rw [hb, hp]
theorem QN (b : AV) (e : Int) (hm : b.needs.length < 1000000) (hl : ∀ p ∈ b.needs, ((AW b.needs p.1).getD []).length < 100000 /\ ((AW b.guards p.1).getD []).length < 100000) (h1 : Zw b e) :
  B2 b e = some ((Cq b e b.needs).headD 0, ((Cq b e b.needs).length : Int)) := by
 have hle := List.length_filterMap_le (fun p : Int × List AM => Dp (IU b p.1) e) b.needs
 unfold B2
 refine Kw (fun s => (∀ p ∈ s.2.2, p ∈ b.needs) /\ 0 <= s.2.1 /\ s.2.1 + ((Cq b e s.2.2).length : Int) = ((Cq b e b.needs).length : Int) /\ (s.2.1 = 0 -> s.1 = 0) /\ (s.2.1 ≠ 0 -> s.1 = (Cq b e b.needs).headD 0)) (fun s hs h0 => ?_) (fun s j y hs hy => ?_) ⟨fun p hp => hp, Int.le_refl _, by simp, fun _ => rfl, fun h => absurd rfl h⟩
 .obtain ⟨x, n, r⟩ := s
  simp only at h0 hs
  subst h0
  obtain ⟨-, a1, a2, a3, a4⟩ := hs
  simp only [Cq, List.filterMap_nil, List.length_nil] at a2
  simp only [FU]
  have e1 : n = ((Cq b e b.needs).length : Int) := by unfold Cq; omega
  have e2 : x = (Cq b e b.needs).headD 0 := by
   by_cases hz : n = 0
   .rw [a3 hz]
    have : Cq b e b.needs = [] := List.length_eq_zero_iff.1 (by omega)
    rw [this]; rfl
   exact a4 hz
  rw [e1, e2]
 obtain ⟨x, n, r⟩ := s
 obtain ⟨h2, a1, a2, a3, a4⟩ := hs
 simp only at h2 a1 a2 a3 a4 hy ⊢
 have hmem := h2 y (List.mem_of_getElem? hy)
 obtain ⟨l1, l2⟩ := hl y hmem
 have hp := IK hy
 have hsub : ∀ p ∈ r.eraseIdx j, p ∈ b.needs := fun p h => h2 p (hp.mem_iff.1 (List.mem_cons_of_mem _ h))
 have hpl := (hp.filterMap fun p : Int × List AM => Dp (IU b p.1) e).length_eq
 have c1 : BL ((AW b.needs y.1).getD []) = some ((AW b.needs y.1).getD []) := D5 _ (by omega)
 have ha : (IU b y.1).length < 1000000 := by unfold IU; rw [List.length_append]; omega
 simp only [F0, c1, Option.bind_some, BO (show ((AW b.needs y.1).getD []).length + ((AW b.guards y.1).getD []).length <= 4294967296 by omega)]
 have hn : n <= (Cq b e b.needs).length := by omega
 have hlt : (Cq b e b.needs).length < 1000000 := by unfold Cq; omega
 have L := WD (IU b y.1) e ha (step := DF e (x, n, r) (r.eraseIdx j) (IU b y.1)) (no := .inl (x, n, r.eraseIdx j)) (yes := fun q => .inl (q, AZ (n + 1), r.eraseIdx j)) (by simp only [DF, B6, cond_false]) (fun i z hz => by
  have := BZ hz
  simp only [DF, Bd hz, cond_true, Ah, hz, Option.bind_some, AT (show i < 1000000000 by omega)])
 unfold IU at L
 rw [L]
 cases hf : Dp ((AW b.needs y.1).getD [] ++ (AW b.guards y.1).getD []) e with
 | none =>
  refine .inr ⟨(x, n, r.eraseIdx j), rfl, rfl, hsub, a1, ?_, a3, a4⟩
  rw [List.filterMap_cons_none (by unfold IU; exact hf)] at hpl
  simp only
  unfold Cq at a2 ⊢
  omega
 | some q =>
  have hq : q ∈ Cq b e b.needs := List.mem_filterMap.2 ⟨y, hmem, by unfold IU; exact hf⟩
  have hhd : q = (Cq b e b.needs).headD 0 := by
   cases hh : Cq b e b.needs with
   | nil => rw [hh] at hq; cases hq
   | cons z zs => exact h1 q hq z (by rw [hh]; simp)
  rw [List.filterMap_cons_some (by unfold IU; exact hf), List.length_cons] at hpl
  have hw : AZ (n + 1) = n + 1 := CQ (by omega) (by omega)
  refine .inr ⟨(q, AZ (n + 1), r.eraseIdx j), rfl, rfl, hsub, ?_, ?_, fun h => ?_, fun _ => hhd⟩
  .simp only [hw]; omega
  .simp only [hw]; unfold Cq at a2 ⊢; omega
  simp only [hw] at h; omega
end Go.E
/- Plain Lean: of two roads each is taken for itself; which is refused beside the other. No condition. -/
namespace Go.E
open Go
structure C7 (n : Int) (r : AO) : Prop where
 one : 1 <= r.steps.length
 ls : r.steps.length <= 1000
 ln : r.needs.length <= 1000
 lg : r.guards.length <= 1000
 lz : r.zone.length <= 1000
 step : ∀ s ∈ r.steps, 0 <= s.elem /\ s.elem < n
 once : (r.steps.map (·.elem)).Nodup
 zone : ∀ e ∈ r.zone, 0 <= e /\ e < n /\ e ∉ r.steps.map (·.elem)
 need : ∀ x ∈ r.needs ++ r.guards, (0 <= x.elem /\ x.elem < n) /\ (x.pos = 1 \/ x.pos = 2)
 cons : Mg (r.needs ++ r.guards)
theorem U9 (b : AV) (e : Int) : DO b e = some (decide (0 <= e) && decide (e < b.elems)) := by
 unfold DO
 cases decide (0 <= e) <;> rfl
theorem XH (b : AV) (r : AO) (h : C7 b.elems r) : Dn b r = some true := by
 have h1 := h.one; have h2 := h.ls; have h3 := h.ln; have h4 := h.lg; have h5 := h.lz
 unfold Dn
 rw [beq_eq_false_iff_ne.2 (show ((r.steps.length : Int)) ≠ 0 by omega)]
 simp only [cond_false]
 have one4 : ∀ (i : Nat) (l done : List AM) (s : Int × List (Int × Int)), s.1 = (i : Int) -> i <= 2 -> l.length <= 1000 -> (∀ x ∈ done ++ l, (0 <= x.elem /\ x.elem < b.elems) /\ (x.pos = 1 \/ x.pos = 2)) -> Mg (done ++ l) -> (∀ k v, AW s.2 k = some v -> ∃ x ∈ done, x.elem = k /\ x.pos = v) ->
   ∃ c', AQ (Ch b s l) (0, s.2) = some (.inl (((i + 1 : Nat) : Int), c')) /\ ∀ k v, AW c' k = some v -> ∃ x ∈ done ++ l, x.elem = k /\ x.pos = v := by
  intro i l done s hs hi hl hx hc hI
  obtain ⟨t, ht, c', rfl, hc'⟩ : ∃ t, AQ (Ch b s l) (0, s.2) = some t /\ ∃ c', t = .inl (((i + 1 : Nat) : Int), c') /\ ∀ k v, AW c' k = some v -> ∃ x ∈ done ++ l, x.elem = k /\ x.pos = v := by
   refine B8 (l := l) (fun j c => ∀ k v, AW c k = some v -> ∃ x ∈ done ++ l.take j, x.elem = k /\ x.pos = v) (fun c hc' => ?_) (fun j x c hj hc' => ?_) (c := s.2) (fun k v hk => by obtain ⟨x, hx, e⟩ := hI k v hk; exact ⟨x, by simpa using hx, e⟩)
   .rw [List.take_length] at hc'
    exact ⟨_, by simp only [Ch, B6, cond_false, hs, AT (show i < 1000000000 by omega)], c, rfl, hc'⟩
   have hjl := BZ hj
   have hm : x ∈ done ++ l := List.mem_append_right _ (List.mem_of_getElem? hj)
   obtain ⟨⟨x1, x2⟩, x3⟩ := hx x hm
   have hp : ((bif (x.pos != 1) then bif (x.pos != 2) then some true else bif (AW c x.elem).isSome then some (((AW c x.elem).getD 0) != x.pos) else some false else bif (AW c x.elem).isSome then some (((AW c x.elem).getD 0) != x.pos) else some false : Option Bool)) = some false := by
    have hq : ((bif (AW c x.elem).isSome then some (((AW c x.elem).getD 0) != x.pos) else some false : Option Bool)) = some false := by
     cases ha : AW c x.elem with
     | none => rfl
     | some v =>
      obtain ⟨y, hy, y1, y2⟩ := hc' _ _ ha
      have hy' : y ∈ done ++ l := by
       rcases List.mem_append.1 hy with hy | hy
       .exact List.mem_append_left _ hy
       exact List.mem_append_right _ (List.mem_of_mem_take hy)
      have := hc y hy' x hm y1
      simp only [Option.isSome_some, cond_true, Option.getD_some, Option.some.injEq, bne_eq_false_iff_eq]
      omega
    rcases x3 with x3 | x3 <;> simp only [x3] at hq ⊢ <;> exact hq
   refine .inr ⟨Ay x.elem x.pos c, ?_, fun k v hk => ?_⟩
   .simp only [Ch, Bd hj, cond_true, Ah, hj, Option.bind_some, U9, decide_eq_true x1, decide_eq_true x2, Bool.and_self, Bool.not_true, cond_false, hp, AT (show j < 1000000000 by omega)]
   rw [Dv] at hk
   rw [List.take_add_one, hj]
   by_cases e : k = x.elem
   .rw [if_pos e] at hk; cases hk
    exact ⟨x, by simp, e.symm, rfl⟩
   rw [if_neg e] at hk
   obtain ⟨y, hy, e2⟩ := hc' k v hk
   exact ⟨y, by rw [<- List.append_assoc]; exact List.mem_append_left _ hy, e2⟩
  exact ⟨c', ht, hc'⟩
 have l3 : AQ (CO b r) (0, []) = some true := by
  obtain ⟨c1, e1, d1⟩ := one4 0 r.needs [] (0, []) rfl (by omega) h3 (fun x hx => h.need x (List.mem_append_left _ (by simpa using hx))) (fun x hx y hy => h.cons x (List.mem_append_left _ (by simpa using hx)) y (List.mem_append_left _ (by simpa using hy))) (fun k v hk => by simp [AW] at hk)
  obtain ⟨c2, e2, d2⟩ := one4 1 r.guards r.needs (1, c1) rfl (by omega) h4 h.need h.cons (fun k v hk => by simpa using d1 k v hk)
  have i0 : Ak ([r.needs, r.guards] : List (List AM)) 0 = some r.needs := rfl
  have i1 : Ak ([r.needs, r.guards] : List (List AM)) 1 = some r.guards := rfl
  have s1 : CO b r (0, []) = some (.inl (1, c1)) := by
   simp only [CO, i0, Option.bind_some]; rw [e1]; rfl
  have s2 : CO b r (1, c1) = some (.inl (2, c2)) := by
   simp only [CO, i1, Option.bind_some]; rw [e2]; rfl
  rw [CT s1, CT s2]
  exact DY rfl
 obtain ⟨t, ht, rfl⟩ : ∃ t, AQ (C6 b r) (0, []) = some t /\ t = true := by
  refine B8 (l := r.steps) (fun j c => ∀ e, (AW c e).getD false = decide (e ∈ (r.steps.take j).map (·.elem))) (fun c hc => ?_) (fun j s c hj hc => ?_) (c := []) (fun e => by simp [AW])
  .rw [List.take_length] at hc
   refine ⟨true, ?_, rfl⟩
   have l2 : AQ (C5 b r ((r.steps.length : Int), c)) 0 = some true := T8 (l := r.zone) (by simp only [C5, B6, cond_false, l3]; rfl) (fun i e he => by
    have := BZ he
    obtain ⟨z1, z2, z3⟩ := h.zone e (List.mem_of_getElem? he)
    simp only [C5, Bd he, cond_true, Ah, he, Option.bind_some, U9, decide_eq_true z1, decide_eq_true z2, Bool.and_self, Bool.not_true, cond_false, hc, decide_eq_false z3, AT (show i < 1000000000 by omega)])
   simp only [C6, B6, cond_false, l2]; rfl
  have := BZ hj
  obtain ⟨s1, s2⟩ := h.step s (List.mem_of_getElem? hj)
  have hnew : s.elem ∉ (r.steps.take j).map (·.elem) := by
   intro hm
   obtain ⟨x, hx, hxe⟩ := List.mem_map.1 hm
   obtain ⟨i, hi, hie⟩ := MT hx
   have a1 : (r.steps.map (·.elem))[i]? = some s.elem := by rw [List.getElem?_map, hie]; simp [hxe]
   have a2 : (r.steps.map (·.elem))[j]? = some s.elem := by rw [List.getElem?_map, hj]; rfl
   have := (List.getElem?_inj (BZ a1) h.once).1 (a1.trans a2.symm)
   omega
  refine .inr ⟨Ay s.elem true c, ?_, fun e => ?_⟩
  .simp only [C6, Bd hj, cond_true, Ah, hj, Option.bind_some, U9, decide_eq_true s1, decide_eq_true s2, Bool.and_self, Bool.not_true, cond_false, hc, decide_eq_false hnew, AT (show j < 1000000000 by omega)]
  rw [Dv, EE hj]
  by_cases he : e = s.elem
  .simp [he]
  rw [if_neg he, hc]; simp only [List.mem_append, List.mem_singleton, he, or_false]
 exact ht
end Go.E
/- Plain Lean: what may be taken from a book of none, and beside one road (May, Take). No condition. -/
namespace Go.E
open Go
theorem Iy {α β : Type} {l : List α} {step : Int -> Option (Int ⊕ β)} (bad : α -> Bool) (x : β) (fin : Option β) (h0 : step (l.length : Int) = fin.map .inr)
  (h1 : ∀ (i : Nat) a, l[i]? = some a -> step (i : Int) = bif bad a then some (.inr x) else some (.inl ((i + 1 : Nat) : Int))) : AQ step 0 = if l.any bad = true then some x else fin := by
 refine Jb (γ := Unit) l (fun i _ => (i : Int)) (fun _ _ r => if r.any bad = true then some x else fin) (fun _ => ?_) (fun i _ a r ha hi => ?_) ()
 .rw [h0]; simp
 cases hb : bad a with
 | true => left; rw [h1 i a ha, hb]; simp [hb]
 | false => right; exact ⟨(), by rw [h1 i a ha, hb]; rfl, by simp [hb]⟩
def Mh (ow : Int -> Int) (zo : Int -> List Int) (po : Int -> Int) (r : AO) : Int :=
 if (r.steps.any fun s => decide (0 <= ow s.elem) || decide (0 < ((zo s.elem).length : Int))) = true then 14 else if (r.zone.any fun e => decide (0 <= ow e)) = true then 14 else
  if (r.needs.any fun x => (po x.elem != 0) && (po x.elem != x.pos)) = true then 15 else if (r.guards.any fun x => (po x.elem != 0) && (po x.elem != x.pos)) = true then 15 else 0
theorem WE (b : AV) (o : Int) (r : AO) (hr : C7 b.elems r) (ho : 0 <= o) (hh : CB b o = some false) {ow : Int -> Int} {zo : Int -> List Int} {po : Int -> Int}
  (hO : ∀ e, Bj b e = some (ow e)) (hZ : ∀ e, CS b e = some (zo e)) (hH : ∀ e, ∃ k, B2 b e = some (po e, k)) : B0 b o r = some (Mh ow zo po r) := by
 have h2 := hr.ls; have h3 := hr.ln; have h4 := hr.lg; have h5 := hr.lz
 unfold B0
 simp only [decide_eq_false (show ¬ o < 0 by omega), cond_false, hh, Option.bind_some, XH b r hr, Bool.not_true]
 have l4 : ∀ (l : List AM) (i : Nat), l.length <= 1000 -> i <= 2 -> AQ (Cb b (i : Int) l) 0 = if (l.any fun x => (po x.elem != 0) && (po x.elem != x.pos)) = true then some (.inr 15) else some (.inl ((i + 1 : Nat) : Int)) := by
  intro l i hl hi
  refine Iy (l := l) _ _ _ (by simp only [Cb, B6, cond_false, AT (show i < 1000000000 by omega)]; rfl) (fun j x hx => ?_)
  have := BZ hx
  obtain ⟨k, hk⟩ := hH x.elem
  simp only [Cb, Bd hx, cond_true, Ah, hx, Option.bind_some, hk, AT (show j < 1000000000 by omega)]
  cases (po x.elem != 0) <;> rfl
 have i0 : Ak ([r.needs, r.guards] : List (List AM)) 0 = some r.needs := rfl
 have i1 : Ak ([r.needs, r.guards] : List (List AM)) 1 = some r.guards := rfl
 have s0 : CC b r 0 = AQ (Cb b ((0 : Nat) : Int) r.needs) 0 := by
  simp only [CC, i0, Option.bind_some]; rfl
 have s1 : CC b r 1 = AQ (Cb b ((1 : Nat) : Int) r.guards) 0 := by
  simp only [CC, i1, Option.bind_some]; rfl
 have l3 : AQ (CC b r) 0 = some (if (r.needs.any fun x => (po x.elem != 0) && (po x.elem != x.pos)) = true then 15 else if (r.guards.any fun x => (po x.elem != 0) && (po x.elem != x.pos)) = true then 15 else 0) := by
  rw [l4 _ 0 h3 (by omega)] at s0
  rw [l4 _ 1 h4 (by omega)] at s1
  by_cases c : (r.needs.any fun x => (po x.elem != 0) && (po x.elem != x.pos)) = true
  .rw [if_pos c] at s0 ⊢
   exact DY s0
  rw [if_neg c] at s0 ⊢
  rw [CT s0]
  show AQ (CC b r) 1 = _
  by_cases c2 : (r.guards.any fun x => (po x.elem != 0) && (po x.elem != x.pos)) = true
  .rw [if_pos c2] at s1 ⊢
   exact DY s1
  rw [if_neg c2] at s1 ⊢
  rw [CT s1]
  exact DY rfl
 have l2 := Iy (l := r.zone) (step := Cx b r) (fun e => decide (0 <= ow e)) 14 (AQ (CC b r) 0) (by simp only [Cx, B6, cond_false]) (fun i e he => by
  have := BZ he
  simp only [Cx, Bd he, cond_true, Ah, he, Option.bind_some, hO, AT (show i < 1000000000 by omega)])
 have l1 := Iy (l := r.steps) (step := DW b r) (fun s => decide (0 <= ow s.elem) || decide (0 < ((zo s.elem).length : Int))) 14 (AQ (Cx b r) 0) (by simp only [DW, B6, cond_false]) (fun i s hs => by
  have := BZ hs
  simp only [DW, Bd hs, cond_true, Ah, hs, Option.bind_some, hO, hZ, AT (show i < 1000000000 by omega)]
  cases decide (0 <= ow s.elem) <;> rfl)
 rw [l1, l2, l3]
 unfold Mh
 repeat' split
 all_goals rfl
theorem YF (b : AV) (o : Int) (r : AO) {e : Int} (h : B0 b o r = some e) (he : e ≠ 0) : BF b o r = some (b, e) := by
 have he' : (e != 0) = true := bne_iff_ne.2 he
 unfold BF
 rw [h]
 simp only [Option.bind_some, he', cond_true]
theorem Ok (b : AV) (o : Int) (r : AO) (hr : C7 b.elems r) (h : B0 b o r = some 0) :
  BF b o r = some (⟨b.elems, Ay o (r.steps.map (·.elem)) b.steps, Ay o r.zone b.zone, Ay o r.needs b.needs, Ay o r.guards b.guards⟩, 0) := by
 have h2 := hr.ls; have h3 := hr.ln; have h4 := hr.lg; have h5 := hr.lz
 unfold BF
 rw [h]
 simp only [Option.bind_some, bne_self_eq_false, cond_false]
 obtain ⟨t, ht, rfl⟩ := B8 (l := r.steps) (step := DG b o r) (Post := fun t => t = (⟨b.elems, Ay o (r.steps.map (·.elem)) b.steps, Ay o r.zone b.zone, Ay o r.needs b.needs, Ay o r.guards b.guards⟩, 0)) (fun i c => c = (r.steps.take i).map (·.elem)) (fun c hc => by
   rw [List.take_length] at hc
   subst hc
   have c1 : CA r.zone = some r.zone := D5 _ (by omega)
   have c2 : BL r.needs = some r.needs := D5 _ (by omega)
   have c3 : BL r.guards = some r.guards := D5 _ (by omega)
   exact ⟨_, by simp only [DG, B6, cond_false, c1, c2, c3, Option.bind_some, Option.map_some], rfl⟩) (fun i a c ha hc => by
   subst hc
   have := BZ ha
   refine .inr ⟨_, ?_, (EE ha).symm⟩
   simp only [DG, Bd ha, cond_true, Ah, ha, Option.bind_some, BO (l := (r.steps.take i).map (·.elem)) (m := [a.elem]) (by simp; omega), AT (show i < 1000000000 by omega)]) (c := []) rfl
 exact ht
def N7 (n : Int) : AV := ⟨n, [], [], [], []⟩
def Cp (n a : Int) (r : AO) : AV := ⟨n, [(a, r.steps.map (·.elem))], [(a, r.zone)], [(a, r.needs)], [(a, r.guards)]⟩
def Gg (a c : AO) : Int := Mh (fun e => if e ∈ a.steps.map (·.elem) then 0 else -1) (fun e => if e ∈ a.zone then [0] else []) (fun e => (Dp (a.needs ++ a.guards) e).getD 0) c
theorem Uo (n o : Int) (r : AO) (hr : C7 n r) (ho : 0 <= o) : BF (N7 n) o r = some (Cp n o r, 0) := by
 have h := WE (N7 n) o r hr ho rfl (ow := fun _ => -1) (zo := fun _ => []) (po := fun _ => 0)
  (fun e => by rw [Oj _ _ (fun p hp => by cases hp) (fun p hp => by cases hp)]; rfl)
  (fun e => by rw [Ol _ _ (by simp [N7]) (fun p hp => by cases hp)]; rfl)
  (fun e => ⟨0, by rw [QN _ _ (by simp [N7]) (fun p hp => by cases hp) (fun x hx => by cases hx)]; rfl⟩)
 have h0 : Mh (fun _ => -1) (fun _ => []) (fun _ => 0) r = 0 := by
  unfold Mh
  simp
 rw [h0] at h
 rw [Ok (N7 n) o r hr h]
 rfl
theorem YG {ow ow' : Int -> Int} {zo zo' : Int -> List Int} {po : Int -> Int} (r : AO) (h1 : ∀ e, (0 <= ow e ↔ 0 <= ow' e)) (h2 : ∀ e, (zo e).length = (zo' e).length) : Mh ow zo po r = Mh ow' zo' po r := by
 unfold Mh
 have e1 : ∀ e, decide (0 <= ow e) = decide (0 <= ow' e) := fun e => decide_eq_decide.2 (h1 e)
 simp only [e1, h2]
theorem Wv (n o q : Int) (a c : AO) (ha : C7 n a) (hc : C7 n c) (ho : 0 <= o) (hq : 0 <= q) (hne : q ≠ o) : B0 (Cp n o a) q c = some (Gg a c) := by
 have hN : Cq (Cp n o a) = fun e m => m.filterMap fun p => Dp (IU (Cp n o a) p.1) e := rfl
 have hall : IU (Cp n o a) o = a.needs ++ a.guards := by simp [IU, Cp, AW]
 have h := WE (Cp n o a) q c hc hq (by
   have : (q == o) = false := beq_eq_false_iff_ne.2 hne
   unfold CB
   simp only [Cp, AW, this, Bool.false_eq_true, if_false, Option.getD_none]
   rfl) (ow := fun e => if e ∈ a.steps.map (·.elem) then o else -1) (zo := fun e => if e ∈ a.zone then [o] else []) (po := fun e => (Dp (a.needs ++ a.guards) e).getD 0)
  (fun e => by
   rw [Oj _ _ (fun p hp p' hp' _ _ => by simp [Cp] at hp hp'; rw [hp, hp']) (fun p hp => by simp [Cp] at hp; subst hp; have := ha.ls; simp; omega)]
   by_cases he : e ∈ a.steps.map (·.elem)
   .simp only [if_pos he]
    rw [T9 (q := (o, a.steps.map (·.elem))) (fun p hp p' hp' _ _ => by simp [Cp] at hp hp'; rw [hp, hp']) (by simp [Cp]) he]
   simp only [if_neg he]
   rw [UA fun p hp => by simp only [Cp, List.mem_singleton] at hp; subst hp; exact he])
  (fun e => by
   rw [Ol _ _ (by simp [Cp]) (fun p hp => by simp [Cp] at hp; subst hp; have := ha.lz; simp; omega)]
   by_cases he : e ∈ a.zone
   .simp only [if_pos he, XG, Cp, List.filter_cons, decide_eq_true he]; rfl
   simp only [if_neg he, XG, Cp, List.filter_cons, decide_eq_false he]; rfl)
  (fun e => by
   have hL : Cq (Cp n o a) e (Cp n o a).needs = (Dp (a.needs ++ a.guards) e).toList := by
    show [(o, a.needs)].filterMap _ = _
    simp only [List.filterMap_cons, List.filterMap_nil, hall]
    cases Dp (a.needs ++ a.guards) e <;> rfl
   refine ⟨((Dp (a.needs ++ a.guards) e).toList.length : Int), (QN _ _ (by simp [Cp]) (fun p hp => ?_) (fun x hx y hy => ?_)).trans ?_⟩
   .simp only [Cp, List.mem_singleton] at hp
    subst hp
    have := ha.ln; have := ha.lg
    simp [Cp, AW]; omega
   .rw [hL] at hx hy
    cases hf : Dp (a.needs ++ a.guards) e with
    | none => rw [hf] at hx; cases hx
    | some v => rw [hf] at hx hy; simp at hx hy; rw [hx, hy]
   rw [hL]
   cases Dp (a.needs ++ a.guards) e <;> rfl)
 rw [YG (ow' := fun e => if e ∈ a.steps.map (·.elem) then 0 else -1) (zo' := fun e => if e ∈ a.zone then [0] else []) c (fun e => by split <;> omega) (fun e => by split <;> rfl)] at h
 exact h
theorem Xe (n o q : Int) (a c : AO) (ha : C7 n a) (hc : C7 n c) (ho : 0 <= o) (hq : 0 <= q) (hne : q ≠ o) : ∃ b, BF (Cp n o a) q c = some (b, Gg a c) := by
 have h := Wv n o q a c ha hc ho hq hne
 by_cases h0 : Gg a c = 0
 .have h' : B0 (Cp n o a) q c = some 0 := by rw [h]; exact congrArg some h0
  exact ⟨_, by rw [Ok (Cp n o a) q c hc h', h0]⟩
 exact ⟨_, YF _ _ _ h h0⟩
end Go.E
/- Plain Lean: which of two roads is refused beside the other, as the book and as the document say; LockClash. No condition. -/
namespace Go.E
open Go
def Iz (a c : AO) : Prop := (∃ s ∈ c.steps, s.elem ∈ a.steps.map (·.elem) \/ s.elem ∈ a.zone) \/ ∃ e ∈ c.zone, e ∈ a.steps.map (·.elem)
def Ke (a c : AO) : Prop := ∃ x ∈ c.needs ++ c.guards, ∃ y ∈ a.needs ++ a.guards, y.elem = x.elem /\ y.pos ≠ x.pos
theorem Iz.symm {a c : AO} (h : Iz a c) : Iz c a := by
 rcases h with ⟨s, hs, h | h⟩ | ⟨e, he, h⟩
 .obtain ⟨t, ht, e⟩ := List.mem_map.1 h
  exact .inl ⟨t, ht, .inl (e ▸ List.mem_map_of_mem hs)⟩
 .exact .inr ⟨s.elem, h, List.mem_map_of_mem hs⟩
 obtain ⟨t, ht, e2⟩ := List.mem_map.1 h
 exact .inl ⟨t, ht, .inr (e2 ▸ he)⟩
theorem Ke.symm {a c : AO} (h : Ke a c) : Ke c a := by
 obtain ⟨x, hx, y, hy, e1, e2⟩ := h
 exact ⟨y, hy, x, hx, e1.symm, fun e => e2 e.symm⟩
theorem RA {l : List AM} {e v : Int} (h : Dp l e = some v) : ∃ y ∈ l, y.elem = e /\ y.pos = v := by
 unfold Dp at h
 obtain ⟨y, hy, rfl⟩ := Option.map_eq_some_iff.1 h
 exact ⟨y, List.mem_of_find?_eq_some hy, by simpa using List.find?_some hy, rfl⟩
theorem WF {l : List AM} {e : Int} (h : Dp l e = none) : ∀ y ∈ l, y.elem ≠ e := by
 unfold Dp at h
 intro y hy he
 have := List.find?_eq_none.1 (Option.map_eq_none_iff.1 h) y hy
 simp [he] at this
theorem Tc {a c : AO} : ((c.steps.any fun s => decide (0 <= (if s.elem ∈ a.steps.map (·.elem) then (0 : Int) else -1)) || decide (0 < (((if s.elem ∈ a.zone then [(0 : Int)] else []) : List Int).length : Int))) = true \/ (c.zone.any fun e => decide (0 <= (if e ∈ a.steps.map (·.elem) then (0 : Int) else -1))) = true) ↔ Iz a c := by
 have o : ∀ e, (0 <= (if e ∈ a.steps.map (·.elem) then (0 : Int) else -1)) ↔ e ∈ a.steps.map (·.elem) := fun e => by
  by_cases h : e ∈ a.steps.map (·.elem)
  .rw [if_pos h]; exact ⟨fun _ => h, fun _ => Int.le_refl 0⟩
  rw [if_neg h]; exact ⟨fun h' => absurd h' (by decide), fun h' => absurd h' h⟩
 have z : ∀ e, (0 < (((if e ∈ a.zone then [(0 : Int)] else []) : List Int).length : Int)) ↔ e ∈ a.zone := fun e => by
  by_cases h : e ∈ a.zone
  .rw [if_pos h]; exact ⟨fun _ => h, fun _ => by decide⟩
  rw [if_neg h]; exact ⟨fun h' => absurd h' (by decide), fun h' => absurd h' h⟩
 simp only [List.any_eq_true, Bool.or_eq_true, decide_eq_true_eq, o, z]
 exact Iff.rfl
theorem RB {n : Int} {a : AO} (ha : C7 n a) (l : List AM) : (l.any fun x => (((Dp (a.needs ++ a.guards) x.elem).getD 0) != 0) && (((Dp (a.needs ++ a.guards) x.elem).getD 0) != x.pos)) = true ↔ ∃ x ∈ l, ∃ y ∈ a.needs ++ a.guards, y.elem = x.elem /\ y.pos ≠ x.pos := by
 rw [List.any_eq_true]
 constructor
 .rintro ⟨x, hx, h⟩
  cases hf : Dp (a.needs ++ a.guards) x.elem with
  | none => rw [hf] at h; simp at h
  | some v =>
   rw [hf] at h
   obtain ⟨y, hy, e1, e2⟩ := RA hf
   simp only [Option.getD_some, Bool.and_eq_true, bne_iff_ne] at h
   exact ⟨x, hx, y, hy, e1, by rw [e2]; exact h.2⟩
 rintro ⟨x, hx, y, hy, e1, e2⟩
 refine ⟨x, hx, ?_⟩
 cases hf : Dp (a.needs ++ a.guards) x.elem with
 | none => exact absurd e1 (WF hf y hy)
 | some v =>
  obtain ⟨z, hz, f1, f2⟩ := RA hf
  have e3 := ha.cons z hz y hy (f1.trans e1.symm)
  have e4 := (ha.need z hz).2
  simp only [Option.getD_some, Bool.and_eq_true, bne_iff_ne]
  omega
theorem Nq {n : Int} {a c : AO} (ha : C7 n a) : (Iz a c -> Gg a c = 14) /\ (¬ Iz a c -> Ke a c -> Gg a c = 15) /\ (¬ Iz a c -> ¬ Ke a c -> Gg a c = 0) := by
 have hM := @Tc a c
 have h1 := RB ha c.needs
 have h2 := RB ha c.guards
 have hA : Ke a c ↔ (∃ x ∈ c.needs, ∃ y ∈ a.needs ++ a.guards, y.elem = x.elem /\ y.pos ≠ x.pos) \/ ∃ x ∈ c.guards, ∃ y ∈ a.needs ++ a.guards, y.elem = x.elem /\ y.pos ≠ x.pos := by
  unfold Ke
  constructor
  .rintro ⟨x, hx, h⟩
   rcases List.mem_append.1 hx with hx | hx
   .exact .inl ⟨x, hx, h⟩
   exact .inr ⟨x, hx, h⟩
  rintro (⟨x, hx, h⟩ | ⟨x, hx, h⟩)
  .exact ⟨x, List.mem_append_left _ hx, h⟩
  exact ⟨x, List.mem_append_right _ hx, h⟩
 rw [<- hM, hA, <- h1, <- h2]
 unfold Gg Mh
 refine ⟨fun h => ?_, fun h h' => ?_, fun h h' => ?_⟩
 .rcases h with h | h
  .rw [if_pos h]
  split
  .rfl
  first | rfl | rw [if_pos h]
 .rw [not_or] at h
  rw [if_neg h.1, if_neg h.2]
  rcases h' with h' | h'
  .rw [if_pos h']
  split
  .rfl
  first | rfl | rw [if_pos h']
 rw [not_or] at h h'
 rw [if_neg h.1, if_neg h.2, if_neg h'.1, if_neg h'.2]
theorem VA {n : Int} {a c : AO} (ha : C7 n a) (hc : C7 n c) : Gg a c = Gg c a := by
 obtain ⟨a1, a2, a3⟩ := Nq (c := c) ha
 obtain ⟨c1, c2, c3⟩ := Nq (c := a) hc
 by_cases hM : Iz a c
 .rw [a1 hM, c1 hM.symm]
 have hM' : ¬ Iz c a := fun h => hM h.symm
 by_cases hA : Ke a c
 .rw [a2 hM hA, c2 hM' hA.symm]
 rw [a3 hM hA, c3 hM' fun h => hA h.symm]
theorem Ou (x y : List Int) (hx : x.length < 1000000) (hy : y.length < 1000000) : EU x y = some (x.any fun e => decide (e ∈ y)) := by
 unfold EU
 rw [Iy (l := x) (fun e => decide (e ∈ y)) true (some false) (by simp only [Gn, B6, cond_false]; rfl) (fun i e he => by
  have := BZ he
  simp only [Gn, Bd he, cond_true, Ah, he, Option.bind_some, Pm y hy, AT (show i < 1000000000 by omega)])]
 cases x.any fun e => decide (e ∈ y) <;> rfl
theorem S6 (x y : List AM) (hx : x.length < 1000000) (hy : y.length < 1000000) : Fj x y = some (x.any fun a => y.any fun b => (a.elem == b.elem) && (a.pos != b.pos)) := by
 unfold Fj
 rw [Iy (l := x) (fun a => y.any fun b => (a.elem == b.elem) && (a.pos != b.pos)) true (some false) (by simp only [FM, B6, cond_false]; rfl) (fun i a ha => by
  have := BZ ha
  simp only [FM, Bd ha, cond_true]
  rw [Iy (l := y) (fun b => (a.elem == b.elem) && (a.pos != b.pos)) (.inr true) (some (.inl ((i + 1 : Nat) : Int))) (by simp only [FL, B6, cond_false, AT (show i < 1000000000 by omega)]; rfl) (fun k b hb => by
   have := BZ hb
   simp only [FL, Bd hb, cond_true, Ah, ha, hb, Option.bind_some, AT (show k < 1000000000 by omega)]
   cases a.elem == b.elem <;> rfl)]
  cases y.any fun b => (a.elem == b.elem) && (a.pos != b.pos) <;> rfl)]
 cases x.any fun a => y.any fun b => (a.elem == b.elem) && (a.pos != b.pos) <;> rfl
theorem Kf (p : AH) (hf : D6 p) (e : Int) : ∃ v, EV p e = some v /\ (0 <= v.1 -> ∃ (i k : Nat) (l : B5), v = ((i : Int), (k : Int)) /\ p.lines[i]? = some l /\ k < l.elems.length) := by
 have q := hf.lines
 unfold EV
 refine Bg (l := p.lines) (fun _ _ => True) (fun _ => ⟨(-1, -1), by simp only [Gp, B6, cond_false], fun h => absurd h (by decide)⟩) (fun i l hl _ => ?_)
 have := BZ hl
 have hle := (hf.line i l hl).1
 simp only [Gp, Bd hl, cond_true]
 obtain ⟨t, ht, h⟩ : ∃ t, AQ (En p e (i : Int)) 0 = some t /\ (t = .inl ((i + 1 : Nat) : Int) \/ ∃ k : Nat, t = .inr ((i : Int), (k : Int)) /\ k < l.elems.length) := by
  refine Bg (l := l.elems) (fun _ _ => True) (fun _ => ⟨_, by simp only [En, Ah, hl, Option.bind_some, B6, cond_false, AT (show i < 1000000000 by omega)], .inl rfl⟩) (fun k f hk _ => ?_)
  have := BZ hk
  simp only [En, Ah, hl, Option.bind_some, Bd hk, cond_true, hk, AT (show k < 1000000000 by omega)]
  cases f == e with
  | true => exact .inl ⟨_, rfl, .inr ⟨k, rfl, by omega⟩⟩
  | false => exact .inr ⟨rfl, trivial⟩
 rw [ht]
 rcases h with rfl | ⟨k, rfl, hk⟩
 .exact .inr ⟨rfl, trivial⟩
 exact .inl ⟨_, rfl, fun _ => ⟨i, k, l, rfl, hl, hk⟩⟩
theorem Pv (p : AH) (hv : B7 p) (e i : Int) : ∃ v, Hl p e i = some v := by
 obtain ⟨v, h1, h2⟩ := Kf p hv.few e
 unfold Hl
 simp only [h1, Option.bind_some, HJ]
 by_cases c : v.1 < 0
 .exact ⟨0, by simp only [decide_eq_true c, cond_true, Option.bind_some]⟩
 obtain ⟨j, k, l, rfl, hl, hk⟩ := h2 (by omega)
 simp only [decide_eq_false c, cond_false, Option.bind_some]
 cases Ci p ⟨e, i⟩ with
 | false => exact ⟨0, rfl⟩
 | true =>
  obtain ⟨b, b1, b2, b3⟩ := S4 p hv.few hv.join l.elems (hv.few.line j l hl).1 (hv.line.line j l hl)
  obtain ⟨x, hx⟩ : ∃ x, b.1[k]? = some x := ⟨_, List.getElem?_eq_getElem (by omega)⟩
  simp only [Bool.not_true, cond_false, Ah, hl, Option.bind_some, b1, hx]
  cases x == i <;> exact ⟨_, rfl⟩
theorem QX (p : AH) (hv : B7 p) (a c : AO) (ha : a.steps.length <= 1000) (hc : c.steps.length <= 1000) : ∃ t, Eo p a c = some t := by
 unfold Eo
 obtain ⟨t, ht, -⟩ := Bg (l := a.steps) (step := Dj p a c) (Post := fun _ => True) (fun _ _ => True) (fun _ => ⟨false, by simp only [Dj, B6, cond_false], trivial⟩) (fun i s hs _ => by
  have := BZ hs
  simp only [Dj, Bd hs, cond_true]
  obtain ⟨u, hu, h⟩ : ∃ u, AQ (Di p a c (i : Int)) 0 = some u /\ (u = .inl ((i + 1 : Nat) : Int) \/ u = .inr true) := by
   refine Bg (l := c.steps) (fun _ _ => True) (fun _ => ⟨_, by simp only [Di, B6, cond_false, AT (show i < 1000000000 by omega)], .inl rfl⟩) (fun k f hk _ => ?_)
   have := BZ hk
   obtain ⟨v1, e1, -⟩ := Kf p hv.few s.elem
   obtain ⟨v2, e2, -⟩ := Kf p hv.few f.elem
   obtain ⟨w1, e3⟩ := Pv p hv s.elem s.in_
   obtain ⟨w2, e4⟩ := Pv p hv f.elem f.in_
   simp only [Di, Bd hk, cond_true, Ah, hs, hk, Option.bind_some, e1, e2, e3, e4, AT (show k < 1000000000 by omega)]
   cases decide (0 <= v1.1) with
   | false => exact .inr ⟨rfl, trivial⟩
   | true =>
    cases v1.1 == v2.1 with
    | false => exact .inr ⟨rfl, trivial⟩
    | true =>
     cases w1 != w2 with
     | false => exact .inr ⟨rfl, trivial⟩
     | true => exact .inl ⟨_, rfl, .inr rfl⟩
  rw [hu]
  rcases h with rfl | rfl
  .exact .inr ⟨rfl, trivial⟩
  exact .inl ⟨true, rfl, trivial⟩)
 exact ⟨t, ht⟩
theorem S7 (r : AO) (h1 : r.needs.length <= 1000) (h2 : r.guards.length <= 1000) : Hk r = some (r.needs ++ r.guards) := by
 unfold Hk
 rw [BO (by simp; omega)]
 simp only [Option.bind_some, List.nil_append]
 rw [BO (by omega)]
 rfl
theorem Y1 (p : AH) (hv : B7 p) {n : Int} {a c : AO} (ha : C7 n a) (hc : C7 n c) :
  ∃ w, JU p a c = some w /\ (w = 1 \/ (w = 2 \/ w = 3) /\ Iz a c \/ w = 4 /\ ¬ Iz a c /\ Ke a c \/ (w = 0 \/ w = 5) /\ ¬ Iz a c /\ ¬ Ke a c) := by
 have a1 := ha.ls; have a2 := ha.ln; have a3 := ha.lg; have a4 := ha.lz
 have c1 := hc.ls; have c2 := hc.ln; have c3 := hc.lg; have c4 := hc.lz
 unfold JU
 simp only [Nd a (by omega), Nd c (by omega), Option.bind_some, DX]
 by_cases h0 : a.frm = c.frm
 .rw [if_pos h0]; exact ⟨1, rfl, .inl rfl⟩
 rw [if_neg h0]
 simp only [Ou (a.steps.map (·.elem)) (c.steps.map (·.elem)) (by simp; omega) (by simp; omega), Ou (a.steps.map (·.elem)) c.zone (by simp; omega) (by omega), Ou a.zone (c.steps.map (·.elem)) (by omega) (by simp; omega), S7 a a2 a3, S7 c c2 c3,
  S6 (a.needs ++ a.guards) (c.needs ++ c.guards) (by simp; omega) (by simp; omega), Option.bind_some]
 have m1 : ((a.steps.map (·.elem)).any fun e => decide (e ∈ c.steps.map (·.elem))) = true ↔ ∃ e ∈ a.steps.map (·.elem), e ∈ c.steps.map (·.elem) := by simp only [List.any_eq_true, decide_eq_true_eq]
 have m2 : ((a.steps.map (·.elem)).any fun e => decide (e ∈ c.zone)) = true ↔ ∃ e ∈ a.steps.map (·.elem), e ∈ c.zone := by simp only [List.any_eq_true, decide_eq_true_eq]
 have m3 : (a.zone.any fun e => decide (e ∈ c.steps.map (·.elem))) = true ↔ ∃ e ∈ a.zone, e ∈ c.steps.map (·.elem) := by simp only [List.any_eq_true, decide_eq_true_eq]
 have hM : Iz a c ↔ ((∃ e ∈ a.steps.map (·.elem), e ∈ c.steps.map (·.elem)) \/ (∃ e ∈ a.steps.map (·.elem), e ∈ c.zone) \/ ∃ e ∈ a.zone, e ∈ c.steps.map (·.elem)) := by
  constructor
  .rintro (⟨s, hs, h | h⟩ | ⟨e, he, h⟩)
   .exact .inl ⟨_, h, List.mem_map_of_mem hs⟩
   .exact .inr (.inr ⟨_, h, List.mem_map_of_mem hs⟩)
   exact .inr (.inl ⟨e, h, he⟩)
  rintro (⟨e, h, h'⟩ | ⟨e, h, h'⟩ | ⟨e, h, h'⟩)
  .obtain ⟨s, hs, rfl⟩ := List.mem_map.1 h'
   exact .inl ⟨s, hs, .inl h⟩
  .exact .inr ⟨e, h', h⟩
  obtain ⟨s, hs, rfl⟩ := List.mem_map.1 h'
  exact .inl ⟨s, hs, .inr h⟩
 have m4 : ((a.needs ++ a.guards).any fun x => (c.needs ++ c.guards).any fun b => (x.elem == b.elem) && (x.pos != b.pos)) = true ↔ Ke a c := by
  simp only [List.any_eq_true, Bool.and_eq_true, beq_iff_eq, bne_iff_ne]
  constructor
  .rintro ⟨y, hy, x, hx, h⟩; exact ⟨x, hx, y, hy, h⟩
  rintro ⟨x, hx, y, hy, h⟩; exact ⟨y, hy, x, hx, h⟩
 rw [hM, <- m1, <- m2, <- m3, <- m4]
 cases ((a.steps.map (·.elem)).any fun e => decide (e ∈ c.steps.map (·.elem))) with
 | true => exact ⟨2, rfl, .inr (.inl ⟨.inl rfl, .inl rfl⟩)⟩
 | false =>
  cases ((a.steps.map (·.elem)).any fun e => decide (e ∈ c.zone)) with
  | true => exact ⟨3, rfl, .inr (.inl ⟨.inr rfl, .inr (.inl rfl)⟩)⟩
  | false =>
   cases (a.zone.any fun e => decide (e ∈ c.steps.map (·.elem))) with
   | true => exact ⟨3, rfl, .inr (.inl ⟨.inr rfl, .inr (.inr rfl)⟩)⟩
   | false =>
    cases ((a.needs ++ a.guards).any fun x => (c.needs ++ c.guards).any fun b => (x.elem == b.elem) && (x.pos != b.pos)) with
    | true => exact ⟨4, rfl, .inr (.inr (.inl ⟨rfl, by simp, rfl⟩))⟩
    | false =>
     obtain ⟨t, ht⟩ := QX p hv a c a1 c1
     cases t with
     | true => exact ⟨5, by simp only [cond_false, Option.bind_some, ht]; rfl, .inr (.inr (.inr ⟨.inr rfl, by simp, by simp⟩))⟩
     | false => exact ⟨0, by simp only [cond_false, Option.bind_some, ht], .inr (.inr (.inr ⟨.inl rfl, by simp, by simp⟩))⟩
end Go.E
/- Plain Lean: two roads of a plan, each taken first (LockClash). No condition. -/
namespace Go.E
open Go
theorem Pw {p : AH} {n : CE} (hv : B7 p) (hn : Cj p n) {r : AO} (hr : r ∈ (C8 p).1) (hb : (CM n r).bare = false) : C7 (p.elems.length : Int) (CM n r) := by
 obtain ⟨s, hs⟩ := Sq hr
 have hro := D7 hs
 have hl := Hr hs
 have hnd : r.needs.length <= 12 := hro.2.2.2.2.2.2.2.2
 have hf := (Lu hv hn hl (show r.needs.length <= 1000 by omega)).2
 have hg := S3 hv hn hs hb
 have hz := hf.zone.len
 have hlg := hf.lg
 have rng : ∀ e, AY p e ≠ 0 -> 0 <= e /\ e < (p.elems.length : Int) := fun e h => J1 h
 have hk : ∀ q ∈ r.steps, AY p q.elem ≠ 0 := fun q hq => U2 hs q hq
 refine ⟨by rw [hf.steps]; exact hro.2.2.2.2.2.2.2.1, by rw [hf.steps]; omega, by rw [hf.needs]; omega, by omega, by omega, fun q hq => rng _ (hk q (hf.steps ▸ hq)), by rw [hf.steps]; exact (Vz hs).2, fun e he => ?_, fun x hx => ?_, hg.cons⟩
 .obtain ⟨z1, z2, z3⟩ := hg.zone e he
  exact ⟨z1, z2, z3⟩
 rcases List.mem_append.1 hx with hx | hx
 .rw [hf.needs] at hx
  obtain ⟨g1, g2, g3⟩ := (Sy hs).ok x hx
  exact ⟨rng _ (by omega), g3⟩
 obtain ⟨g1, g2⟩ := hg.guard x hx
 exact ⟨rng _ (by omega), g2⟩
theorem ZY {k : Nat} (h : k <= 40) : (if (if (40 : Int) < (k : Int) then (40 : Int) else (k : Int)) > 0 then (if (40 : Int) < (k : Int) then (40 : Int) else (k : Int)) else 0) = (k : Int) := by
 rw [if_neg (show ¬ (40 : Int) < (k : Int) by omega)]
 split <;> omega
theorem XI (p : AH) : ∃ c e, G7 p = some (c, e) /\ (e = true -> B7 p /\ ∃ n, Cj p n /\ (C8 p).1.length <= 64 /\ c = (C8 p).1.map (CM n)) := by
 unfold G7
 obtain ⟨b0, h1, h2⟩ := Uv p
 simp only [h1, Option.bind_some]
 cases b0 with
 | false => exact ⟨[], false, rfl, by simp⟩
 | true =>
  have hv := h2 rfl
  have hc := U7 h1
  obtain ⟨n, hN, hn⟩ := Yp p hv
  obtain ⟨c, e, e1, e2⟩ := WC hv hn hc
  simp only [Bool.not_true, cond_false, e1, Option.bind_some]
  refine ⟨c.roads, (e == 0), rfl, fun h => ?_⟩
  obtain ⟨e3, rfl⟩ := e2 (by simpa using h)
  have hl : (C8 p).1.length <= 64 := by
   unfold C8
   split
   .simp
   simp only; omega
  exact ⟨hv, n, hn, hl, rfl⟩
theorem QY (hk : Fw = some true) (p : AH) (i k : Int) (ki : (Lit.int .u8 i).wf = true) (kk : (Lit.int .u8 k).wf = true) : F5 p i k = some true := by
 unfold F5
 simp only [hk, Option.bind_some, Bool.not_true, cond_false]
 obtain ⟨l, e, h1, h2⟩ := XI p
 simp only [h1, Option.bind_some]
 cases e with
 | false => rfl
 | true =>
  obtain ⟨hv, n, hn, hlen, rfl⟩ := h2 rfl
  have hne := hv.ne
  simp only [Bool.not_true, cond_false, Option.bind_some, List.length_map]
  by_cases c1 : (C8 p).1.length = 0
  .simp [c1]
  have c1' : (((C8 p).1.length : Int) == 0) = false := by simp only [beq_eq_false_iff_ne]; omega
  obtain ⟨u1, u2, u3⟩ := Zn ki
  obtain ⟨v1, v2, v3⟩ := Zn kk
  obtain ⟨j, j1, j2⟩ := Sz (k := (C8 p).1.length) u1 (by omega)
  obtain ⟨m, m1, m2⟩ := Sz (k := (C8 p).1.length) v1 (by omega)
  obtain ⟨ra, ra1⟩ : ∃ r, (C8 p).1[j]? = some r := ⟨_, List.getElem?_eq_getElem j1⟩
  obtain ⟨rc, rc1⟩ : ∃ r, (C8 p).1[m]? = some r := ⟨_, List.getElem?_eq_getElem m1⟩
  have fa : ((C8 p).1.map (CM n))[j]? = some (CM n ra) := by rw [List.getElem?_map, ra1]; rfl
  have fc : ((C8 p).1.map (CM n))[m]? = some (CM n rc) := by rw [List.getElem?_map, rc1]; rfl
  rw [c1', u3, v3, j2, m2]
  simp only [cond_false, Option.bind_some, Ah, fa, fc, ZY hne]
  by_cases hjm : (j : Int) = (m : Int)
  .simp [hjm]
  have hjm' : ((j : Int) == (m : Int)) = false := beq_eq_false_iff_ne.2 hjm
  rw [hjm']
  simp only [cond_false]
  cases ba : (CM n ra).bare with
  | true => rfl
  | false =>
   cases bc : (CM n rc).bare with
   | true => rfl
   | false =>
    have hA := Pw hv hn (List.mem_of_getElem? ra1) ba
    have hC := Pw hv hn (List.mem_of_getElem? rc1) bc
    have t0 := Uo (p.elems.length : Int) (j : Int) (CM n ra) hA (by omega)
    have t1 := Uo (p.elems.length : Int) (m : Int) (CM n rc) hC (by omega)
    obtain ⟨b2, t2⟩ := Xe (p.elems.length : Int) (j : Int) (m : Int) (CM n ra) (CM n rc) hA hC (by omega) (by omega) (fun e => hjm e.symm)
    obtain ⟨b3, t3⟩ := Xe (p.elems.length : Int) (m : Int) (j : Int) (CM n rc) (CM n ra) hC hA (by omega) (by omega) hjm
    have t0' : BF ⟨(p.elems.length : Int), [], [], [], []⟩ (j : Int) (CM n ra) = _ := t0
    have t1' : BF ⟨(p.elems.length : Int), [], [], [], []⟩ (m : Int) (CM n rc) = _ := t1
    have hs := VA hA hC
    rw [<- hs] at t3
    obtain ⟨w, hw, hw2⟩ := Y1 p hv hA hC
    obtain ⟨a1, a2, a3⟩ := Nq (c := CM n rc) hA
    simp only [cond_false, Option.bind_some, t0', t1', t2, t3, bne_self_eq_false, hw]
    rcases hw2 with rfl | ⟨rfl | rfl, hM⟩ | ⟨rfl, hM, hG⟩ | ⟨rfl | rfl, hM, hG⟩
    .rfl
    .rw [a1 hM]; rfl
    .rw [a1 hM]; rfl
    .rw [a2 hM hG]; rfl
    .rw [a3 hM hG]; rfl
    rw [a3 hM hG]; rfl
end Go.E
/- Plain Lean: the owners of a book, whatever the order. No condition. -/
namespace Go.E
open Go
def Nr (b : AV) (o : Int) : Bool := decide (0 < AZ ((AZ ((((AW b.steps o).getD []).length : Int) + (((AW b.zone o).getD []).length : Int))) + (((AW b.guards o).getD []).length : Int)))
def ZZ (b : AV) : List Int := Gu ((b.steps.filter fun p => Nr b p.1).map (·.1))
theorem Vn (b : AV) (hm : b.steps.length < 1000000) : Cy b = some (ZZ b) := by
 unfold Cy
 refine Kw (fun s => (s.1 ++ (s.2.filter fun p => Nr b p.1).map (·.1)).Perm ((b.steps.filter fun p => Nr b p.1).map (·.1))) (fun s hs h0 => ?_) (fun s j y hs hy => ?_) (by simp)
 .obtain ⟨a, r⟩ := s
  simp only at h0 hs
  subst h0
  have hp := hs
  simp only [List.filter_nil, List.map_nil, List.append_nil] at hp
  have hlen := hp.length_eq
  have h2 := List.length_filter_le (fun p => Nr b p.1) b.steps
  rw [List.length_map] at hlen
  have e1 : II a = some (Gu a) := by unfold II; rw [if_pos (by omega)]
  simp only [EW, e1, Option.bind_some, Option.map_some, ON hp]
  rfl
 obtain ⟨a, r⟩ := s
 simp only at hs hy ⊢
 have hp := IK hy
 have hlen := hs.length_eq
 have h3 := List.length_filter_le (fun p => Nr b p.1) b.steps
 simp only [List.length_append, List.length_map] at hlen
 have hpf := ((hp.filter fun p => Nr b p.1).map (·.1))
 have hh : CB b y.1 = some (Nr b y.1) := rfl
 simp only [E0, hh, Option.bind_some]
 cases he : Nr b y.1 with
 | true =>
  refine .inr ⟨(a ++ [y.1], r.eraseIdx j), ?_, rfl, ?_⟩
  .rw [BO (by simp; omega)]; rfl
  rw [List.filter_cons_of_pos (by simpa using he)] at hpf
  simp only [List.append_assoc, List.singleton_append]
  exact (List.Perm.append_left a hpf).trans hs
 | false =>
  refine .inr ⟨(a, r.eraseIdx j), rfl, rfl, ?_⟩
  rw [List.filter_cons_of_neg (by simp [he])] at hpf
  exact (List.Perm.append_left a hpf).trans hs
end Go.E
/- The known answers of layer 14. No condition. -/
set_option maxRecDepth 100000
namespace Go.E
open Go Go.Proofs
theorem bs {α β : Type} {o : Option α} {a : α} {f : α -> Option β} {r : β} (h : o = some a) (k : f a = some r) : o.bind f = some r := by rw [h]; exact k
theorem bt {α : Type} {c : Bool} {a b : Option α} {r : α} (h : c = true) (k : a = some r) : (bif c then a else b) = some r := by rw [h]; exact k
theorem bF {α : Type} {c : Bool} {a b : Option α} {r : α} (h : c = false) (k : b = some r) : (bif c then a else b) = some r := by rw [h]; exact k
noncomputable def Rj : AH := H4.getD ⟨[], [], [], [], 0, 0, 0, 0, false⟩
noncomputable def Ln : List AO := match Dr Rj with
 | some c => c.1.roads
 | none => []
noncomputable def kR (i : Nat) : AO := Ln.getD i ⟨0, 0, 0, [], [], [], [], [], false⟩
noncomputable def Pc : AV := Cp 6 1 (kR 1)
noncomputable def Vk : AV := ⟨6, Ay 0 ((kR 0).steps.map (·.elem)) Pc.steps, Ay 0 (kR 0).zone Pc.zone, Ay 0 (kR 0).needs Pc.needs, Ay 0 (kR 0).guards Pc.guards⟩
noncomputable def Tw : AV := match D3 Vk 1 2 with
 | some b => b.1
 | none => Vk
noncomputable def Pd : AV := match Ct Tw 0 with
 | some b => b.1
 | none => Tw
def Vl (n : Int) (r : AO) : Bool := decide (1 <= r.steps.length) && decide (r.steps.length <= 1000) && decide (r.needs.length <= 1000) && decide (r.guards.length <= 1000) && decide (r.zone.length <= 1000) && decide (∀ s ∈ r.steps, 0 <= s.elem /\ s.elem < n) &&
 decide ((r.steps.map (·.elem)).Nodup) && decide (∀ e ∈ r.zone, 0 <= e /\ e < n /\ e ∉ r.steps.map (·.elem)) && decide (∀ x ∈ r.needs ++ r.guards, (0 <= x.elem /\ x.elem < n) /\ (x.pos = 1 \/ x.pos = 2)) && decide (∀ a ∈ r.needs ++ r.guards, ∀ b ∈ r.needs ++ r.guards, a.elem = b.elem -> a.pos = b.pos)
theorem Oi {n : Int} {r : AO} (h : Vl n r = true) : C7 n r := by
 simp only [Vl, Bool.and_eq_true, decide_eq_true_eq] at h
 obtain ⟨⟨⟨⟨⟨⟨⟨⟨⟨h1, h2⟩, h3⟩, h4⟩, h5⟩, h6⟩, h7⟩, h8⟩, h9⟩, h10⟩ := h
 exact ⟨h1, h2, h3, h4, h5, h6, h7, h8, h9, h10⟩
def Yg (m : List (Int × List Int)) (e : Int) : Bool := decide (∀ p ∈ m, ∀ q ∈ m, e ∈ p.2 -> e ∈ q.2 -> p.1 = q.1) && decide (∀ p ∈ m, p.2.length < 1000000)
def XY (b : AV) (e : Int) : Bool := decide (b.needs.length < 1000000) && decide (∀ p ∈ b.needs, ((AW b.needs p.1).getD []).length < 100000 /\ ((AW b.guards p.1).getD []).length < 100000) && decide (∀ x ∈ Cq b e b.needs, ∀ y ∈ Cq b e b.needs, x = y)
theorem Vm {b : AV} {e v : Int} (h : Yg b.steps e = true) (hv : QM b.steps e = v) : Bj b e = some v := by
 simp only [Yg, Bool.and_eq_true, decide_eq_true_eq] at h
 rw [Oj b e h.1 h.2, hv]
theorem Tx {b : AV} {e : Int} {v : Int × Int} (h : XY b e = true) (hv : ((Cq b e b.needs).headD 0, ((Cq b e b.needs).length : Int)) = v) : B2 b e = some v := by
 simp only [XY, Bool.and_eq_true, decide_eq_true_eq] at h
 rw [QN b e h.1.1 h.1.2 h.2, hv]
theorem X1 : Fw = some true := by
 have R0 : C7 6 (kR 0) := Oi (by kernel_rfl)
 have R1 : C7 6 (kR 1) := Oi (by kernel_rfl)
 have R4 : C7 6 (kR 4) := Oi (by kernel_rfl)
 have c4 : Gg (kR 1) (kR 4) = 14 := by kernel_rfl
 have c0 : Gg (kR 1) (kR 0) = 0 := by kernel_rfl
 have t1 : BF (N7 6) 1 (kR 1) = some (Pc, 0) := Uo 6 1 (kR 1) R1 (by decide)
 have m4 : B0 Pc 4 (kR 4) = some 14 := (Wv 6 1 4 (kR 1) (kR 4) R1 R4 (by decide) (by decide) (by decide)).trans (congrArg some c4)
 have m0 : B0 Pc 0 (kR 0) = some 0 := (Wv 6 1 0 (kR 1) (kR 0) R1 R0 (by decide) (by decide) (by decide)).trans (congrArg some c0)
 have t2 : BF Pc 0 (kR 0) = some (Vk, 0) := Ok Pc 0 (kR 0) R0 m0
 have h2 : B2 Vk 2 = some (1, 1) := Tx (by kernel_rfl) (by kernel_rfl)
 have f3 : D3 Vk 1 2 = some (Tw, true) := by kernel_rfl
 have h3 : B2 Tw 2 = some (0, 0) := Tx (by kernel_rfl) (by kernel_rfl)
 have o3 : Bj Tw 3 = some 1 := Vm (by kernel_rfl) (by kernel_rfl)
 have d4 : Ct Tw 0 = some (Pd, true) := by kernel_rfl
 have d5 : Ct Pd 0 = some (Pd, false) := by kernel_rfl
 have os : Cy Pd = some [1] := by rw [Vn Pd (of_decide_eq_true (by kernel_rfl))]; exact congrArg some (by kernel_rfl)
 have o4 : Bj Pd 1 = some (-1) := Vm (by kernel_rfl) (by kernel_rfl)
 have z4 : CS Pd 1 = some [] := by rw [Ol Pd 1 (of_decide_eq_true (by kernel_rfl)) (of_decide_eq_true (by kernel_rfl))]; exact congrArg some (by kernel_rfl)
 have hp : H4 = some Rj := by kernel_rfl
 have hb : Dr Rj = some (⟨Rj, Ln⟩, 0) := by kernel_rfl
 have s6 : ((Ln.length : Int) != 6) = false := by kernel_rfl
 have i1 : Ak Ln 1 = some (kR 1) := by kernel_rfl
 have i4 : Ak Ln 4 = some (kR 4) := by kernel_rfl
 have i0 : Ak Ln 0 = some (kR 0) := by kernel_rfl
 have hs : CB Pd 1 = some true := by kernel_rfl
 have sm : HW [1] [1] = some true := by kernel_rfl
 unfold Fw
 refine bs hp <| bs hb <| bs rfl <| bs (a := false) (bF rfl (congrArg some s6)) <| bF rfl <| bs i1 <| bs t1 <| bs i4 <| bs m4 <| bs i0 <| bs t2 <| bs h2 <| bs f3 <| bs h3 <| bs o3 <| bs d4 <| ?_
 refine bs (a := true) ?_ rfl
 refine bt rfl <| bt rfl <| bt rfl <| bt rfl <| bt rfl <| bt rfl <| bt rfl <| bt rfl <| bt rfl <| bt rfl <| bs d5 <| bt rfl <| bs os <| bs sm <| bt rfl <| bs hs <| bt rfl <| bs o4 <| bt rfl <| bs z4 rfl
end Go.E
