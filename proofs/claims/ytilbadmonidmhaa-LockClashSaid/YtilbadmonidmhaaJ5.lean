/- Plain Lean: the net that the program makes of a valid plan. No condition. -/
import Derived.KernelRfl
import Derived.Test.YtilbadmonidmhaaJ4
set_option linter.unusedVariables false
set_option linter.unusedSimpArgs false
namespace Go.E
open Go
structure Ck (p : AH) (n : CF) : Prop where
 plan : n.p = p
 next : ∀ x, AW n.next x = Ap p x
 reads : ∀ x, AW n.reads x = if 0 <= A0 p x then some (A0 p x) else none
theorem D6 {α : Type} [DecidableEq α] (l : List α) (h : l.length <= 1000000) : LG l (some []) ((BO ([] : List α) l).bind fun y => some y) = some l := by
 rw [BP (by simp; omega)]
 cases l with
 | nil => simp [LG, Rg]
 | cons a l => rfl
theorem T5 (p : AH) (hf : D7 p) : Jy p = some p := by
 have q1 := hf.elems; have q2 := hf.joins; have q3 := hf.signals; have q4 := hf.lines
 have c1 : HD p.elems = some p.elems := D6 _ (by omega)
 have c2 : HE p.joins = some p.joins := D6 _ (by omega)
 have c3 : Gd p.signals = some p.signals := D6 _ (by omega)
 have c4 : HF p.lines = some p.lines := D6 _ (by omega)
 unfold Jy
 simp only [c1, c2, c3, c4, Option.bind_some]
 obtain ⟨b, hb, rfl⟩ := B9 (l := p.lines) (step := HV p p.elems p.joins p.signals p.lines) (Post := fun b => b = p) (fun i c => c = p.lines) (fun c hc => by
   subst hc; exact ⟨p, by simp only [HV, B7, cond_false], rfl⟩) (fun i a c ha hc => by
   subst hc
   have := Ba ha
   have hal := (hf.line i a ha).1
   have c5 : CB a.elems = some a.elems := D6 _ (by omega)
   refine .inr ⟨p.lines, ?_, rfl⟩
   simp only [HV, Be ha, cond_true, Ah, ha, Option.bind_some, c5, AT (show i < 1000000000 by omega)]
   have : KO p.lines (i : Int) (⟨a.name, a.elems⟩ : B6) = p.lines := by
    unfold KO
    apply List.ext_getElem?
    intro k
    rw [List.getElem?_set]
    split
    .rename_i h; simp only [Int.toNat_natCast] at h; subst h; split
     .exact ha.symm
     rename_i h2; simp at h2; omega
    rfl
   rw [this]) (c := p.lines) rfl
 exact hb
theorem Pj (x : AE) (s : A9) : ∀ (l : List A9) (i : Nat), Cd x i (l ++ [s]) = if 0 <= Cd x i l then Cd x i l else if s.at_ = x then ((i + l.length : Nat) : Int) else -1
 | [], i => by simp [Cd]
 | t :: l, i => by
  by_cases h : t.at_ = x
  .simp [Cd, h]
  have e : ∀ r, Cd x i (t :: r) = Cd x (i + 1) r := fun r => by simp [Cd, h]
  simp only [List.cons_append, e, Pj x s l (i + 1), List.length_cons]
  rw [show i + 1 + l.length = i + (l.length + 1) by omega]
theorem Vt (p y15 : AH) (hf : D7 p) (s58 : Int × List (AE × AE)) (s140 : Int × List (AE × Int)) : ∃ a b, AQ (Ge p y15 s58 s140) (0, [], []) = some (some ⟨y15, s58.2, s140.2, a, b⟩, 0) := by
 have q4 := hf.lines
 obtain ⟨r, hr, a, b, rfl⟩ : ∃ r, AQ (Ge p y15 s58 s140) (0, [], []) = some r /\ ∃ a b, r = (some ⟨y15, s58.2, s140.2, a, b⟩, 0) := by
  refine B9 (l := p.lines) (fun _ _ => True) (fun c _ => ⟨_, by simp only [Ge, B7, cond_false], c.1, c.2, rfl⟩) (fun i l c h _ => ?_) (c := (([], []) : List (Int × Fy) × List (Int × Int))) trivial
  have := Ba h
  have hal := (hf.line i l h).1
  obtain ⟨t, ht⟩ : ∃ t : Int, ((bif decide (1 < (l.elems.length : Int)) then (Ak l.elems 0).bind fun y1186 => ((bif (AW s58.2 (⟨y1186, 0⟩ : AE)).isSome then (Ak l.elems 1).bind fun y1195 => some ((((AW s58.2 (⟨y1186, 0⟩ : AE)).getD (⟨0, 0⟩ : AE)).elem) == y1195) else some false : Option (Bool))).bind fun (t1192 : Bool) => bif t1192 then some 1 else some 0 else some 0 : Option (Int))) = some t := by
   match hl : l.elems with
   | [] => exact ⟨0, by simp⟩
   | [a] => exact ⟨0, by simp⟩
   | a :: b :: r =>
    have hd : decide (1 < ((a :: b :: r).length : Int)) = true := by simp; omega
    have i0 : Ak (a :: b :: r) 0 = some a := rfl
    have i1 : Ak (a :: b :: r) 1 = some b := rfl
    simp only [hd, cond_true, i0, i1, Option.bind_some]
    cases (AW s58.2 (⟨a, 0⟩ : AE)).isSome with
    | false => exact ⟨0, rfl⟩
    | true =>
     simp only [cond_true, Option.bind_some]
     cases ((AW s58.2 (⟨a, 0⟩ : AE)).getD (⟨0, 0⟩ : AE)).elem == b with
     | false => exact ⟨0, rfl⟩
     | true => exact ⟨1, rfl⟩
  refine .inr ?_
  simp only [Ge, Be h, cond_true, Ah, h, Option.bind_some, ht]
  obtain ⟨r, hr, c', rfl⟩ : ∃ r, AQ (IB s58 ((i : Int), c) l) (t, 0, c.1, c.2) = some r /\ ∃ c', r = .inl (((i + 1 : Nat) : Int), c') := by
   refine D0 (fun k s => s.2.1 = (k : Int) /\ k <= l.elems.length) l.elems.length ?_ ⟨rfl, Nat.zero_le _⟩
   rintro k ⟨x, j, d1, d2⟩ ⟨hj, hk⟩
   simp only at hj
   subst hj
   by_cases he : k = l.elems.length
   .subst he
    exact .inl ⟨.inl (((i + 1 : Nat) : Int), d1, d2), by simp only [IB, B7, cond_false, AT (show i < 1000000000 by omega)], (d1, d2), rfl⟩
   have ha : l.elems[k]? = some (l.elems[k]'(by omega)) := List.getElem?_eq_getElem _
   exact .inr ⟨by omega, (((AW s58.2 (⟨l.elems[k]'(by omega), AZ (1 - x)⟩ : AE)).getD (⟨0, 0⟩ : AE)).fin, ((k + 1 : Nat) : Int), Ay (l.elems[k]'(by omega)) (⟨(i : Int), (k : Int)⟩ : Fy) d1, Ay (l.elems[k]'(by omega)) x d2), by simp only [IB, Be ha, cond_true, Ah, ha, Option.bind_some, AT (show k < 1000000000 by omega)], rfl, by omega⟩
  exact ⟨c', hr, trivial⟩
 exact ⟨a, b, hr⟩
theorem Yq (p : AH) (hv : B8 p) : ∃ n, Qv p = some (some n, 0) /\ Ck p n := by
 have q2 := hv.few.joins; have q3 := hv.few.signals
 unfold Qv
 simp only [RQ p hv, Option.bind_some, bne_self_eq_false, cond_false, T5 p hv.few]
 have l2 : ∀ s58 : Int × List (AE × AE), (∀ x, AW s58.2 x = Ap p x) -> ∃ r, AQ (IC p p s58) (0, []) = some r /\ ∃ n, r = (some n, 0) /\ Ck p n := by
  intro s58 hs
  refine B9 (l := p.signals) (fun i c => ∀ x, AW c x = if 0 <= Cd x 0 (p.signals.take i) then some (Cd x 0 (p.signals.take i)) else none) (fun c hI => ?_) (fun i s c h hI => ?_) (c := []) (fun x => by simp [AW, Cd])
  .rw [List.take_length] at hI
   obtain ⟨a, b, hr⟩ := Vt p p hv.few s58 ((p.signals.length : Int), c)
   exact ⟨_, by simp only [IC, B7, cond_false, hr]; rfl, _, rfl, ⟨rfl, hs, hI⟩⟩
  have := Ba h
  refine .inr ⟨Ay s.at_ (i : Int) c, by simp only [IC, Be h, cond_true, Ah, h, Option.bind_some, AT (show i < 1000000000 by omega)], fun x => ?_⟩
  have hlen : (p.signals.take i).length = i := by rw [List.length_take]; omega
  rw [Dw, List.take_add_one, h]
  simp only [Option.toList_some, Pj, hI, hlen]
  by_cases hx : x = s.at_
  .subst hx
   have hr := hv.sig.reads i s h
   have hnot : ¬ 0 <= Cd s.at_ 0 (p.signals.take i) := by
    intro h0
    rcases JE s.at_ (p.signals.take i) 0 with ⟨h1, _⟩ | ⟨k, t, h1, h2, _, _⟩
    .omega
    obtain ⟨j, hj, hjt⟩ := MU (List.mem_of_getElem? h1)
    have := hv.sig.reads j t hjt
    rw [h2, hr] at this
    omega
   rw [if_pos rfl, if_neg hnot, if_pos rfl, if_pos (by omega)]
   simp
  have hx' : ¬ s.at_ = x := fun e => hx e.symm
  by_cases h0 : 0 <= Cd x 0 (p.signals.take i)
  .simp only [if_neg hx, if_pos h0]
  simp only [if_neg hx, if_neg h0, if_neg hx']; rfl
 obtain ⟨r, hr, n, rfl, hn⟩ : ∃ r, AQ (ID p p) (0, []) = some r /\ ∃ n, r = (some n, 0) /\ Ck p n := by
  refine B9 (l := p.joins) (fun i c => ∀ x, AW c x = CX (p.joins.take i) x) (fun c hI => ?_) (fun i j c h hI => ?_) (c := []) (fun x => by simp [AW, CX])
  .rw [List.take_length] at hI
   obtain ⟨r, hr, h⟩ := l2 ((p.joins.length : Int), c) hI
   exact ⟨r, by simp only [ID, B7, cond_false, hr]; rfl, h⟩
  have := Ba h
  exact .inr ⟨_, by simp only [ID, Be h, cond_true, Ah, h, Option.bind_some, AT (show i < 1000000000 by omega)], Qy hv.join h hI⟩
 exact ⟨n, hr, hn⟩
end Go.E
/- Plain Lean: sorted rows without repetition. No condition. -/
namespace Go.E
open Go
end Go.E
/- Plain Lean: what a net says is what the plan says. No condition. -/
namespace Go.E
open Go
theorem Kb (p : AH) (e : Int) : Gf p e = some (AY p e) := by
 unfold Gf; rw [Da]; rfl
section
variable {p : AH} {n : CF}
theorem Wz (h : Ck p n) (e : Int) : Is n e = some ((Ak p.elems e).getD ⟨ByteArray.empty, 0, 0⟩) := by
 unfold Is
 rw [h.plan]
 by_cases h1 : e < 0
 .simp [h1, EY (.inl h1)]
 by_cases h2 : (p.elems.length : Int) <= e
 .simp [h1, h2, EY (.inr h2)]
 obtain ⟨a, ha⟩ := Nc (l := p.elems) (n := e) (by omega) (by omega)
 simp [h1, h2, ha]
theorem Oq (h : Ck p n) (e : Int) : Dz n e = some (AY p e) := by
 unfold Dz AY
 rw [Wz h]
 cases Ak p.elems e <;> rfl
theorem Ot (h : Ck p n) (x : AE) : Ch n x = some ((Ap p x).getD ⟨0, 0⟩, (Ap p x).isSome) := by
 unfold Ch; rw [h.next]
theorem Nd (p : AH) (x : AE) : A0 p x = -1 \/ (0 <= A0 p x /\ A0 p x < p.signals.length) := by
 rcases JE x p.signals 0 with ⟨h, _⟩ | ⟨k, s, h1, _, h3, _⟩
 .exact .inl h
 have := Ba h1
 right
 unfold A0
 rw [h3]; omega
theorem Vu (h : Ck p n) (x : AE) : IF n x = some (A0 p x) := by
 unfold IF
 rw [h.reads]
 rcases Nd p x with h1 | ⟨h1, _⟩
 .rw [if_neg (by omega), h1]; rfl
 rw [if_pos h1]; rfl
def Bn (p : AH) (e i : Int) : List Cp :=
 if Cj p ⟨e, i⟩ then if AY p e = 1 then [⟨1 - i, 0⟩] else if AY p e = 3 then [⟨if i = 0 then 1 else if i = 1 then 0 else if i = 2 then 3 else 2, 0⟩] else if AY p e = 2 then if i = 0 then [⟨1, 1⟩, ⟨2, 2⟩] else [⟨0, i⟩] else [] else []
theorem Pk (p : AH) (e i : Int) : Ho p e i = some (Bn p e i) := by
 unfold Ho Bn
 simp only [HK, Option.bind_some, Da, DY]
 cases hh : Cj p ⟨e, i⟩ with
 | false => rfl
 | true =>
  obtain ⟨h1, h2, h3⟩ := Dh hh
  simp only at h1 h2 h3
  simp only [Bool.not_true, cond_false, if_true]
  by_cases k1 : AY p e = 1
  .simp only [if_pos k1, CR (n := 1 - i) (by omega) (by omega)]
  by_cases k3 : AY p e = 3
  .simp only [if_neg k1, if_pos k3]
   have : i = 0 \/ i = 1 \/ i = 2 \/ i = 3 := by omega
   rcases this with rfl | rfl | rfl | rfl <;> rfl
  by_cases k2 : AY p e = 2
  .simp only [if_neg k1, if_neg k3, if_pos k2]
   by_cases i0 : i = 0 <;> simp [i0]
  simp only [if_neg k1, if_neg k3, if_neg k2]
theorem W0 (h : Ck p n) (e i : Int) : It n e i = some (Bn p e i) := by
 unfold It Bn
 simp only [Oq h, Option.bind_some, Lr, DY]
 by_cases h0 : i < 0
 .have : Cj p ⟨e, i⟩ = false := by simp [Cj]; omega
  simp [h0, this]
 by_cases h1 : Bx (AY p e) <= i
 .have : Cj p ⟨e, i⟩ = false := by simp [Cj]; omega
  simp [h0, h1, this]
 have hh : Cj p ⟨e, i⟩ = true := by simp [Cj]; omega
 obtain ⟨_, h2, h3⟩ := Dh hh
 simp only at h2 h3
 simp only [h0, h1, decide_false, cond_false, Option.bind_some, hh, if_true]
 by_cases k1 : AY p e = 1
 .simp only [if_pos k1, CR (n := 1 - i) (by omega) (by omega)]
 by_cases k3 : AY p e = 3
 .simp only [if_neg k1, if_pos k3]
  have : i = 0 \/ i = 1 \/ i = 2 \/ i = 3 := by omega
  rcases this with rfl | rfl | rfl | rfl <;> rfl
 by_cases k2 : AY p e = 2
 .simp only [if_neg k1, if_neg k3, if_pos k2]
  rw [k2] at h3
  have : i = 0 \/ i = 1 \/ i = 2 := by simp [Bx] at h3; omega
  rcases this with rfl | rfl | rfl <;> rfl
 simp only [if_neg k1, if_neg k3, if_neg k2]
def CM : List Cp -> Int -> Option Int
 | [], _ => none
 | w :: r, x => if w.pos = 0 \/ w.pos = x then some w.out else CM r x
def BC (p : AH) (e i x : Int) : Option Int := CM (Bn p e i) x
theorem Kz (p : AH) (e i : Int) : (Bn p e i).length <= 2 := by
 unfold Bn
 repeat' split
 all_goals simp
theorem TX (h : Ck p n) (e i x : Int) : Gy n e i x = some ((BC p e i x).getD 0, (BC p e i x).isSome) := by
 unfold Gy BC
 rw [W0 h]
 simp only [Option.bind_some]
 have hl := Kz p e i
 refine Jc (γ := Unit) (Bn p e i) (fun k _ => (k : Int)) (fun _ _ r => some ((CM r x).getD 0, (CM r x).isSome)) (fun _ => ?_) (fun k _ a r ha hi => ?_) ()
 .simp [FQ, CM]
 simp only [FQ, Ah, ha, Option.bind_some, Be ha, cond_true, CM, DY]
 by_cases h1 : a.pos = 0
 .left; simp [h1]
 by_cases h2 : a.pos = x
 .left
  simp [h1, h2]
 right
 have : (a.pos == x) = false := beq_eq_false_iff_ne.2 h2
 exact ⟨(), by simp [h1, this, AT (show k < 1000000000 by omega)], by simp [h1, h2]⟩
end
end Go.E
/- Plain Lean: RoadFinds answers true, for every argument. No condition. -/
namespace Go.E
open Go
theorem W2 {a b : AO} : a = b ↔ a.frm = b.frm /\ a.to = b.to /\ a.fin = b.fin /\ a.steps = b.steps /\ a.needs = b.needs /\ a.guards = b.guards /\ a.zone = b.zone /\ a.holds = b.holds /\ a.bare = b.bare := by
 cases a; cases b; simp
theorem W3 {r : AO} (hl : r.steps.length < 1000000) {step : Int × List Int -> Option ((Int × List Int) ⊕ List Int)}
  (h : ∀ (i : Int) (o : List Int), step (i, o) = bif decide (i < (r.steps.length : Int)) then (Ak r.steps i).bind fun y => (BO o [y.elem]).bind fun z => some (.inl (AZ (i + 1), z)) else some (.inr o)) : AQ step (0, []) = some (r.steps.map (·.elem)) := by
 obtain ⟨b, h1, h2⟩ := B9 (l := r.steps) (step := step) (Post := fun b => b = r.steps.map (·.elem)) (fun i o => o = (r.steps.take i).map (·.elem)) (c := [])
  (fun c hc => ⟨c, by rw [h]; simp [B7], by rw [hc, List.take_length]⟩)
  (fun i a c ha hc => by
   have := Ba ha
   have hlen : c.length <= i := by rw [hc]; simp; omega
   refine .inr ⟨c ++ [a.elem], ?_, by rw [hc, EF ha]⟩
   rw [h]
   simp only [Be ha, cond_true, Ah, ha, Option.bind_some]
   rw [BP (by simp; omega)]
   simp only [Option.bind_some, AT (show i < 1000000000 by omega)])
  (by simp)
 rw [h1, h2]
theorem Nf (r : AO) (hl : r.steps.length < 1000000) : Du r = some (r.steps.map (·.elem)) := W3 hl fun _ _ => rfl
end Go.E
/- Plain Lean: the roads of a signal: the document's search and the program's are one. No condition. -/
namespace Go.E
open Go
def Hq (s to fin : Int) (st : List Ao) (nd : List AM) : AO := ⟨s, to, fin, st, nd, [], [], [], false⟩
def FY (nd : List AM) (e pos : Int) : List AM := if pos = 0 then nd else nd ++ [⟨e, pos⟩]
def Mr (p : AH) (s : Int) : Nat -> List Ao -> List AM -> AE -> List Int -> List AO
 | 0, _, _, _, _ => []
 | k + 1, st, nd, x, met => if x.elem ∈ met \/ st.length = 12 then [] else if AY p x.elem = 4 then [Hq s (-1) 2 (st ++ [⟨x.elem, x.fin, -1⟩]) nd] else
  (Bn p x.elem x.fin).flatMap fun w => if 0 <= A0 p ⟨x.elem, w.out⟩ then [Hq s (A0 p ⟨x.elem, w.out⟩) 1 (st ++ [⟨x.elem, x.fin, w.out⟩]) (FY nd x.elem w.pos)] else match Ap p ⟨x.elem, w.out⟩ with
   | none => [Hq s (-1) 3 (st ++ [⟨x.elem, x.fin, w.out⟩]) (FY nd x.elem w.pos)]
   | some y => Mr p s k (st ++ [⟨x.elem, x.fin, w.out⟩]) (FY nd x.elem w.pos) y (met ++ [x.elem])
def Hg (p : AH) (s : Int) (k : Nat) (st : List Ao) (nd : List AM) (x : AE) (met : List Int) (w : Cp) : List AO :=
 if 0 <= A0 p ⟨x.elem, w.out⟩ then [Hq s (A0 p ⟨x.elem, w.out⟩) 1 (st ++ [⟨x.elem, x.fin, w.out⟩]) (FY nd x.elem w.pos)] else match Ap p ⟨x.elem, w.out⟩ with
  | none => [Hq s (-1) 3 (st ++ [⟨x.elem, x.fin, w.out⟩]) (FY nd x.elem w.pos)]
  | some y => Mr p s k (st ++ [⟨x.elem, x.fin, w.out⟩]) (FY nd x.elem w.pos) y (met ++ [x.elem])
theorem MW (p : AH) (s : Int) (k : Nat) (st : List Ao) (nd : List AM) (x : AE) (met : List Int) :
  Mr p s (k + 1) st nd x met = if x.elem ∈ met \/ st.length = 12 then [] else if AY p x.elem = 4 then [Hq s (-1) 2 (st ++ [⟨x.elem, x.fin, -1⟩]) nd] else (Bn p x.elem x.fin).flatMap (Hg p s k st nd x met) := rfl
theorem Sn (p : AH) (s : Int) (k : Nat) (st : List Ao) (nd : List AM) (x : AE) (met : List Int) (w : Cp) (ih : ∀ st nd x met, (Mr p s k st nd x met).length <= 2 ^ k) : (Hg p s k st nd x met w).length <= 2 ^ k := by
 have h1 : 1 <= 2 ^ k := Nat.one_le_two_pow
 unfold Hg
 split
 .simp; omega
 split
 .simp; omega
 exact ih _ _ _ _
theorem Je {α β : Type} (f : α -> List β) (b : Nat) : ∀ l : List α, (∀ a ∈ l, (f a).length <= b) -> (l.flatMap f).length <= l.length * b
 | [], _ => by simp
 | a :: l, h => by
  have h1 := h a (by simp)
  have h2 := Je f b l fun x hx => h x (by simp [hx])
  simp only [List.flatMap_cons, List.length_append, List.length_cons, Nat.add_mul]
  omega
theorem QT (p : AH) (s : Int) : ∀ (k : Nat) (st : List Ao) (nd : List AM) (x : AE) (met : List Int), (Mr p s k st nd x met).length <= 2 ^ k
 | 0, _, _, _, _ => by simp [Mr]
 | k + 1, st, nd, x, met => by
  have h1 : 1 <= 2 ^ (k + 1) := Nat.one_le_two_pow
  rw [MW]
  split
  .simp
  split
  .simp; omega
  have h2 := Je (Hg p s k st nd x met) (2 ^ k) (Bn p x.elem x.fin) fun w _ => Sn p s k st nd x met w (QT p s k)
  have h3 := Kz p x.elem x.fin
  have h4 : (Bn p x.elem x.fin).length * 2 ^ k <= 2 * 2 ^ k := Nat.mul_le_mul_right _ h3
  rw [Nat.pow_succ]; omega
theorem Pn (l : List Int) (hl : l.length < 1000000) (x : Int) : DM l x = some (decide (x ∈ l)) := by
 unfold DM
 obtain ⟨b, h1, h2⟩ := Bh (l := l) (step := EJ l x) (Post := fun b => b = decide (x ∈ l)) (fun _ y => y ≠ x) (fun good => ⟨false, by simp [EJ], by
   symm; rw [decide_eq_false_iff_not]; intro hm
   obtain ⟨i, hi⟩ := List.getElem?_of_mem hm
   exact good i x hi rfl⟩) (fun i a ha _ => by
   have := Ba ha
   by_cases e : a = x
   .exact .inl ⟨true, by simp only [EJ, Be ha, cond_true, Ah, ha, Option.bind_some, e, beq_self_eq_true], by symm; rw [decide_eq_true_iff]; subst e; exact List.mem_of_getElem? ha⟩
   have : (a == x) = false := beq_eq_false_iff_ne.2 e
   exact .inr ⟨by simp only [EJ, Be ha, cond_true, Ah, ha, Option.bind_some, this, cond_false, AT (show i < 1000000000 by omega)], e⟩)
 rw [h1, h2]
theorem N9 (r : AO) (s : Ao) (pos fin to : Int) (h1 : r.steps.length <= 100) (h2 : r.needs.length <= 100) : EN r s pos fin to = some (Hq r.frm to fin (r.steps ++ [s]) (FY r.needs s.elem pos)) := by
 unfold EN
 rw [BP (by simp; omega)]
 simp only [Option.bind_some, List.nil_append]
 rw [BP (by simp; omega)]
 simp only [Option.bind_some]
 rw [BP (by simp; omega)]
 simp only [Option.bind_some, List.nil_append, Nb]
 unfold FY Hq
 by_cases e : pos = 0
 .simp [e]
 simp only [if_neg e]
 rw [BP (by simp; omega)]
 simp
theorem So (nd : List AM) (e pos : Int) : (FY nd e pos).length <= nd.length + 1 := by
 unfold FY; split <;> simp
noncomputable def Xb (m : Nat) : AH × AO × AE × List Int -> Option (List AO) := NW (fun rc a => FP rc a.1 a.2.1 a.2.2.1 a.2.2.2) m
theorem Xc {p : AH} (hf : D7 p) (s : Int) : ∀ (k m : Nat) (to fin : Int) (st : List Ao) (nd : List AM) (x : AE) (met : List Int), k <= m -> st.length + k = 13 -> nd.length <= st.length -> met.length <= st.length + 1 -> 1 <= k ->
  Xb m (p, (⟨s, to, fin, st, nd, [], [], [], false⟩ : AO), x, met) = some (Mr p s k st nd x met)
 | 0, _, _, _, _, _, _, _, _, _, _, _, h => by omega
 | k + 1, 0, _, _, _, _, _, _, h, _, _, _, _ => by omega
 | k + 1, m + 1, to, fin, st, nd, x, met, hkm, hst, hnd, hmet, _ => by
  have hpow : 2 ^ k <= 2 ^ 12 := Nat.pow_le_pow_right (by decide) (by omega)
  show FP (Xb m) p ⟨s, to, fin, st, nd, [], [], [], false⟩ x met = _
  unfold FP
  rw [Pn met (by omega) x.elem, MW]
  simp only [Option.bind_some]
  by_cases hm : x.elem ∈ met
  .simp [hm]
  simp only [hm, decide_false, cond_false, false_or, Option.bind_some]
  by_cases hl : st.length = 12
  .have : (((st.length : Nat) : Int) == 12) = true := by rw [beq_iff_eq]; omega
   simp only [this, cond_true, if_pos hl]
  have : (((st.length : Nat) : Int) == 12) = false := by rw [beq_eq_false_iff_ne]; omega
  simp only [this, cond_false, if_neg hl]
  rw [BP (by simp; omega)]
  simp only [Option.bind_some, List.nil_append]
  rw [BP (by simp; omega)]
  simp only [Option.bind_some, Kb, DY]
  by_cases hk : AY p x.elem = 4
  .simp only [if_pos hk, N9 (⟨s, to, fin, st, nd, [], [], [], false⟩ : AO) ⟨x.elem, x.fin, -1⟩ 0 2 (-1) (by simp only; omega) (by simp only; omega), Option.bind_some, FY, if_true]
  simp only [if_neg hk, Pk, Option.bind_some]
  have hol := Kz p x.elem x.fin
  have wl : ∀ w, (Hg p s k st nd x met w).length <= 2 ^ k := fun w => Sn p s k st nd x met w (QT p s k)
  obtain ⟨b, h1, h2⟩ := B9 (l := Bn p x.elem x.fin) (step := Fp p ⟨s, to, fin, st, nd, [], [], [], false⟩ x (Xb m) (met ++ [x.elem]) (Bn p x.elem x.fin))
   (Post := fun b => b = (Bn p x.elem x.fin).flatMap (Hg p s k st nd x met)) (fun i o => o = ((Bn p x.elem x.fin).take i).flatMap (Hg p s k st nd x met)) (c := [])
   (fun o ho => ⟨o, by simp [Fp], by rw [ho, List.take_length]⟩)
   (fun i w o hw ho => by
    have hi := Ba hw
    have hol2 : o.length <= 2 * 2 ^ k := by
     rw [ho]
     have h5 := Je (Hg p s k st nd x met) (2 ^ k) ((Bn p x.elem x.fin).take i) fun w _ => wl w
     have h6 : ((Bn p x.elem x.fin).take i).length * 2 ^ k <= 2 * 2 ^ k := Nat.mul_le_mul_right _ (by rw [List.length_take]; omega)
     omega
    have hw2 := wl w
    refine .inr ⟨o ++ Hg p s k st nd x met w, ?_, by rw [ho, List.take_add_one, hw]; simp⟩
    have hb : o.length + (Hg p s k st nd x met w).length <= 4294967296 := by omega
    simp only [Fp, Be hw, cond_true, Ah, hw, Option.bind_some, HY p (show p.signals.length < 1000000 by have := hf.signals; omega)]
    unfold Hg at hb ⊢
    by_cases hr : 0 <= A0 p ⟨x.elem, w.out⟩
    .rw [if_pos hr] at hb ⊢
     simp only [hr, decide_true, cond_true, N9 (⟨s, to, fin, st, nd, [], [], [], false⟩ : AO) ⟨x.elem, x.fin, w.out⟩ w.pos 1 (A0 p ⟨x.elem, w.out⟩) (by simp only; omega) (by simp only; omega), Option.bind_some]
     rw [BP hb]
     simp only [Option.bind_some, AT (show i < 1000000000 by omega)]
    rw [if_neg hr] at hb ⊢
    simp only [hr, decide_false, cond_false, CL p (by have := hf.joins; omega), Option.bind_some]
    cases hnx : Ap p ⟨x.elem, w.out⟩ with
    | none =>
     rw [hnx] at hb
     simp only [Option.isSome_none, Bool.not_false, cond_true, N9 (⟨s, to, fin, st, nd, [], [], [], false⟩ : AO) ⟨x.elem, x.fin, w.out⟩ w.pos 3 (-1) (by simp only; omega) (by simp only; omega), Option.bind_some]
     rw [BP hb]
     simp only [Option.bind_some, AT (show i < 1000000000 by omega)]
    | some y =>
     rw [hnx] at hb
     simp only at hb
     have hal := So nd x.elem w.pos
     have hrec := Xc hf s k m (-1) 0 (st ++ [⟨x.elem, x.fin, w.out⟩]) (FY nd x.elem w.pos) y (met ++ [x.elem]) (by omega) (by simp; omega) (by simp; omega) (by simp; omega) (by omega)
     simp only [Option.isSome_some, Option.getD_some, Bool.not_true, cond_false, N9 (⟨s, to, fin, st, nd, [], [], [], false⟩ : AO) ⟨x.elem, x.fin, w.out⟩ w.pos 0 (-1) (by simp only; omega) (by simp only; omega), Option.bind_some]
     unfold Hq
     rw [hrec]
     simp only [Option.bind_some]
     rw [BP hb]
     simp only [Option.bind_some, AT (show i < 1000000000 by omega)])
   (by simp)
  rw [show (0 : Int) = ((0 : Nat) : Int) from rfl] at *
  rw [h1, h2]
def EZ (p : AH) (s : Int) : List AO := match Ak p.signals s with
 | none => []
 | some a => match Ap p a.at_ with
  | none => []
  | some y => Mr p s 13 [] [] y [a.at_.elem]
theorem ZY (p : AH) (s : Int) : Ll p s = some (match Ak p.signals s with | none => (⟨0, 0⟩, false) | some a => (a.at_, true)) := by
 unfold Ll
 by_cases h1 : s < 0
 .simp [h1, EY (.inl h1)]
 by_cases h2 : (p.signals.length : Int) <= s
 .simp [h1, h2, EY (.inr h2)]
 obtain ⟨a, ha⟩ := Nc (l := p.signals) (n := s) (by omega) (by omega)
 simp [h1, h2, ha]
theorem Xd {p : AH} (hf : D7 p) (s : Int) : KU p s = some (EZ p s) := by
 unfold KU EZ
 rw [ZY]
 cases Ak p.signals s with
 | none => rfl
 | some a =>
  simp only [Option.bind_some, Bool.not_true, cond_false, CL p (by have := hf.joins; omega)]
  cases Ap p a.at_ with
  | none => rfl
  | some y =>
   have := Xc hf s 13 1000 0 0 [] [] y [a.at_.elem] (by omega) rfl (by simp) (by simp) (by omega)
   simp only [Option.isSome_some, Option.getD_some, Bool.not_true, cond_false]
   show (Xb 1000 _).bind _ = _
   rw [this]; rfl
end Go.E
/- Plain Lean: the program's search for roads gives what the document's does. No condition. -/
namespace Go.E
open Go
section
variable {p : AH} {n : CF}
theorem X4 {α : Type} (l : List α) (x : α) (hl : l.length < 1000000) : AZ (((l ++ [x]).length : Int) - 1) = (l.length : Int) := by
 have : (((l ++ [x]).length : Int) - 1) = (l.length : Int) := by simp
 rw [this, CR] <;> omega
theorem Ys {α : Type} {l : List α} {m : Nat} (x : α) (h : l.length = m) : Ak (l ++ [x]) (m : Int) = some x := by
 rw [Ah]; subst h; simp
theorem X5 {α : Type} {l : List α} (h : l ≠ []) (a b : Int) : Yf l a b = YT l a b := by
 cases l with
 | nil => exact absurd rfl h
 | cons x l => rfl
theorem Yt {α : Type} {l : List α} {m : Nat} (x : α) (h : l.length = m) : Yf (l ++ [x]) 0 (m : Int) = some l := by
 subst h
 rw [X5 (by simp)]
 unfold YT
 rw [if_pos ⟨by omega, by omega, by simp; omega⟩]; simp
end
end Go.E
/- Plain Lean: whether something is a road: the program's answer and the document's are one. No condition. -/
namespace Go.E
open Go
theorem MX {α : Type} {l : List α} {f : α -> Bool} (hl : l.length < 1000000) {step : Int -> Option (Int ⊕ Int)}
  (h0 : step (l.length : Int) = some (.inr (-1))) (h : ∀ (i : Nat) a, l[i]? = some a -> step (i : Int) = if f a = true then some (.inr (i : Int)) else some (.inl ((i + 1 : Nat) : Int))) :
  ∃ t, AQ step 0 = some t /\ ((t = -1 /\ l.find? f = none) \/ ∃ a, 0 <= t /\ l.find? f = some a /\ Ak l t = some a) := by
 have key : ∀ (r : List α) (i : Nat), l.drop i = r -> i <= l.length -> ∃ t, AQ step (i : Int) = some t /\ ((t = -1 /\ r.find? f = none) \/ ∃ a, 0 <= t /\ r.find? f = some a /\ Ak l t = some a) := by
  intro r
  induction r with
  | nil =>
   intro i hd hi
   have : i = l.length := by have := congrArg List.length hd; simp at this; omega
   subst this
   exact ⟨-1, DZ h0, .inl ⟨rfl, rfl⟩⟩
  | cons a r ih =>
   intro i hd hi
   have hlt : i < l.length := by have := congrArg List.length hd; simp at this; omega
   have ha : l[i]? = some a := by
    have : (l.drop i)[0]? = some a := by rw [hd]; rfl
    simpa using this
   have hr : l.drop (i + 1) = r := by
    have : (l.drop i).drop 1 = r := by rw [hd]; rfl
    rwa [List.drop_drop] at this
   by_cases c : f a = true
   .exact ⟨i, DZ (by rw [h i a ha, if_pos c]), .inr ⟨a, by omega, by simp [c], by rw [Ah, ha]⟩⟩
   obtain ⟨t, h1, h2⟩ := ih (i + 1) hr (by omega)
   refine ⟨t, by rw [CU (by rw [h i a ha, if_neg c]), h1], ?_⟩
   simpa [List.find?_cons, c] using h2
 exact key l 0 rfl (Nat.zero_le _)
def QU (l : List Cp) (o : Int) : Option Cp := l.find? fun w => w.out == o
def CQ (p : AH) (a : Int) : Option AE -> List Ao -> List AM -> List Ao -> Option (List AM)
 | _, _, nd, [] => some nd
 | none, _, _, _ :: _ => none
 | some x, pv, nd, s :: r => if s.elem ≠ x.elem \/ s.in_ ≠ x.fin \/ s.elem = a \/ s.elem ∈ pv.map (·.elem) then none else if AY p s.elem = 4 then (if r = [] /\ s.out = -1 then some nd else none) else match QU (Bn p s.elem s.in_) s.out with
  | none => none
  | some w => if r ≠ [] /\ 0 <= A0 p ⟨s.elem, s.out⟩ then none else CQ p a (Ap p ⟨s.elem, s.out⟩) (pv ++ [s]) (FY nd s.elem w.pos) r
def MY (p : AH) (fin to : Int) (l : Ao) : Bool :=
 if AY p l.elem = 4 then decide (fin = 2 /\ to = -1) else if 0 <= A0 p ⟨l.elem, l.out⟩ then decide (fin = 1 /\ to = A0 p ⟨l.elem, l.out⟩) else (Ap p ⟨l.elem, l.out⟩).isNone && decide (fin = 3 /\ to = -1)
def T6 (p : AH) (r : AO) : Bool := match Ak p.signals r.frm with
 | none => false
 | some sg => if r.steps.length < 1 \/ 12 < r.steps.length then false else match CQ p sg.at_.elem (Ap p sg.at_) [] [] r.steps with
  | none => false
  | some nd => match r.steps.getLast? with
   | none => false
   | some l => MY p r.fin r.to l && decide (r.needs = nd)
theorem Po {p : AH} {a : Int} : ∀ {r : List Ao} {x : Option AE} {pv : List Ao} {nd nd' : List AM}, CQ p a x pv nd r = some nd' -> nd'.length <= nd.length + r.length
 | [], x, pv, nd, nd', h => by
  have : nd = nd' := by cases x <;> simpa [CQ] using h
  subst this; simp
 | s :: r, none, pv, nd, nd', h => by simp [CQ] at h
 | s :: r, some x, pv, nd, nd', h => by
  unfold CQ at h
  split at h
  .cases h
  split at h
  .split at h
   .cases h; simp
   cases h
  split at h
  .cases h
  split at h
  .cases h
  have h1 := Po h
  rename_i w _ _
  have h2 := So nd s.elem w.pos
  simp only [List.length_cons]; omega
section
variable {p : AH} {n : CF}
end
end Go.E
/- Plain Lean: whether something is a road, as the document says; the roads of a signal are roads, and none is told twice. No condition. -/
namespace Go.E
open Go
theorem Qz (p : AH) (e i : Int) : (Bn p e i).Pairwise (fun a b => a.out ≠ b.out) := by
 unfold Bn
 repeat' split
 all_goals simp
theorem Jf {p : AH} {e i : Int} {w : Cp} (h : w ∈ Bn p e i) : 0 <= w.out /\ w.out < Bx (AY p e) /\ 0 <= i /\ i < Bx (AY p e) /\ AY p e ≠ 4 /\ (w.pos ≠ 0 -> AY p e = 2 /\ (w.pos = 1 \/ w.pos = 2)) := by
 unfold Bn at h
 cases hh : Cj p ⟨e, i⟩ with
 | false => rw [hh] at h; simp at h
 | true =>
  obtain ⟨h1, h2, h3⟩ := Dh hh
  simp only at h1 h2 h3
  rw [hh] at h
  simp only [if_true] at h
  by_cases k1 : AY p e = 1
  .rw [k1] at h h3 ⊢
   simp [Bx] at h h3 ⊢
   subst h
   simp; omega
  by_cases k3 : AY p e = 3
  .rw [k3] at h h3 ⊢
   simp [Bx] at h h3 ⊢
   subst h
   simp
   split
   .omega
   split
   .omega
   split <;> omega
  by_cases k2 : AY p e = 2
  .rw [k2] at h h3 ⊢
   simp [Bx] at h h3 ⊢
   by_cases i0 : i = 0
   .subst i0
    simp at h
    rcases h with rfl | rfl <;> simp
   rw [if_neg i0] at h
   simp at h
   subst h
   simp; omega
  rw [if_neg k1, if_neg k3, if_neg k2] at h; simp at h
theorem Q0 {l : List Cp} {o : Int} {w : Cp} (h : QU l o = some w) : w ∈ l /\ w.out = o := by
 refine ⟨List.mem_of_find?_eq_some h, ?_⟩
 have := List.find?_some h
 simpa using this
theorem Sq : ∀ {l : List Cp} {w : Cp}, l.Pairwise (fun a b => a.out ≠ b.out) -> w ∈ l -> QU l w.out = some w
 | a :: l, w, hp, hm => by
  rw [List.pairwise_cons] at hp
  unfold QU
  rw [List.find?_cons]
  rcases List.mem_cons.1 hm with rfl | hm
  .simp
  have := hp.1 w hm
  have e : (a.out == w.out) = false := beq_eq_false_iff_ne.2 this
  simp only [e]
  exact Sq hp.2 hm
section
variable {p : AH} {n : CF}
structure Z1 (p : AH) (a s : Int) (x : AE) (st : List Ao) (nd : List AM) (r : AO) (t : List Ao) : Prop where
 frm : r.frm = s
 guards : r.guards = []
 zone : r.zone = []
 holds : r.holds = []
 bare : r.bare = false
 steps : r.steps = st ++ t
 ne : t ≠ []
 len : r.steps.length <= 12
 all : CQ p a (some x) st nd t = some r.needs
 tail : ∀ l, t.getLast? = some l -> MY p r.fin r.to l = true
theorem Ou (s a : Int) : ∀ (k : Nat) (st : List Ao) (nd : List AM) (x : AE) (r : AO), st.length + k = 13 -> r ∈ Mr p s k st nd x (a :: st.map (·.elem)) -> ∃ t, Z1 p a s x st nd r t /\ ∃ u t', t = u :: t' /\ u.elem = x.elem /\ u.in_ = x.fin
 | 0, st, nd, x, r, hk, hr => by simp [Mr] at hr
 | k + 1, st, nd, x, r, hk, hr => by
  rw [MW] at hr
  by_cases hm : x.elem ∈ a :: st.map (·.elem) \/ st.length = 12
  .rw [if_pos hm] at hr; simp at hr
  rw [if_neg hm] at hr
  have hm1 : x.elem ∉ a :: st.map (·.elem) := fun h => hm (.inl h)
  have hm2 : ¬ (x.elem ≠ x.elem \/ x.fin ≠ x.fin \/ x.elem = a \/ x.elem ∈ st.map (·.elem)) := by
   rintro (h1 | h1 | h1 | h1)
   .exact h1 rfl
   .exact h1 rfl
   .exact hm1 (by rw [h1]; simp)
   exact hm1 (List.mem_cons_of_mem _ h1)
  have hlen : st.length < 12 := by
   have : st.length ≠ 12 := fun h => hm (.inr h)
   omega
  by_cases k4 : AY p x.elem = 4
  .rw [if_pos k4] at hr
   simp at hr
   subst hr
   refine ⟨[⟨x.elem, x.fin, -1⟩], ⟨rfl, rfl, rfl, rfl, rfl, rfl, by simp, by simp [Hq]; omega, ?_, ?_⟩, _, _, rfl, rfl, rfl⟩
   .simp only [CQ, if_neg hm2, if_pos k4, Hq, true_and, if_true]
   intro l hl
   simp at hl
   subst hl
   simp [MY, k4, Hq]
  rw [if_neg k4] at hr
  obtain ⟨w, hw, hr⟩ := List.mem_flatMap.1 hr
  have hway := Sq (Qz p x.elem x.fin) hw
  unfold Hg at hr
  by_cases hrd : 0 <= A0 p ⟨x.elem, w.out⟩
  .rw [if_pos hrd] at hr
   simp at hr
   subst hr
   refine ⟨[⟨x.elem, x.fin, w.out⟩], ⟨rfl, rfl, rfl, rfl, rfl, rfl, by simp, by simp [Hq]; omega, ?_, ?_⟩, _, _, rfl, rfl, rfl⟩
   .unfold CQ; rw [if_neg hm2, if_neg k4, hway]; simp [CQ, Hq]
   intro l hl
   simp at hl
   subst hl
   simp [MY, k4, Hq, hrd]
  rw [if_neg hrd] at hr
  cases hnx : Ap p ⟨x.elem, w.out⟩ with
  | none =>
   rw [hnx] at hr
   simp at hr
   subst hr
   refine ⟨[⟨x.elem, x.fin, w.out⟩], ⟨rfl, rfl, rfl, rfl, rfl, rfl, by simp, by simp [Hq]; omega, ?_, ?_⟩, _, _, rfl, rfl, rfl⟩
   .unfold CQ; rw [if_neg hm2, if_neg k4, hway]; simp [CQ, Hq]
   intro l hl
   simp at hl
   subst hl
   simp [MY, k4, Hq, hrd, hnx]
  | some y =>
   rw [hnx] at hr
   have hmm : a :: st.map (·.elem) ++ [x.elem] = a :: (st ++ [(⟨x.elem, x.fin, w.out⟩ : Ao)]).map (·.elem) := by simp
   simp only at hr
   rw [hmm] at hr
   obtain ⟨t, ht, u, t', htu, -, -⟩ := Ou s a k (st ++ [⟨x.elem, x.fin, w.out⟩]) (FY nd x.elem w.pos) y r (by simp; omega) hr
   refine ⟨⟨x.elem, x.fin, w.out⟩ :: t, ⟨ht.frm, ht.guards, ht.zone, ht.holds, ht.bare, by rw [ht.steps]; simp, by simp, ht.len, ?_, ?_⟩, _, _, rfl, rfl, rfl⟩
   .unfold CQ
    rw [if_neg hm2, if_neg k4, hway]
    dsimp only
    rw [if_neg (fun h => hrd h.2), hnx]
    exact ht.all
   intro l hl
   refine ht.tail l ?_
   rw [htu] at hl ⊢
   rwa [List.getLast?_cons_cons] at hl
theorem D8 {s : Int} {r : AO} (h : r ∈ EZ p s) : T6 p r = true /\ r.frm = s /\ r.guards = [] /\ r.zone = [] /\ r.holds = [] /\ r.bare = false /\ r.steps.length <= 12 /\ 1 <= r.steps.length /\ r.needs.length <= 12 := by
 unfold EZ at h
 cases hi : Ak p.signals s with
 | none => rw [hi] at h; simp at h
 | some sg =>
  rw [hi] at h
  simp only at h
  cases hx : Ap p sg.at_ with
  | none => rw [hx] at h; simp at h
  | some y =>
   rw [hx] at h
   simp only at h
   obtain ⟨t, ht, -⟩ := Ou s sg.at_.elem 13 [] [] y r rfl (by simpa using h)
   have hst : r.steps = t := by rw [ht.steps]; rfl
   have hlen : 1 <= r.steps.length := by
    rw [hst]
    exact List.length_pos_iff.2 ht.ne
   have hl2 := ht.len
   have hnl := Po ht.all
   rw [<- hst] at hnl
   simp only [List.length_nil] at hnl
   refine ⟨?_, ht.frm, ht.guards, ht.zone, ht.holds, ht.bare, ht.len, hlen, by omega⟩
   unfold T6
   rw [ht.frm, hi]
   simp only
   rw [if_neg (by omega), hx, hst, ht.all]
   obtain ⟨l, hl⟩ : ∃ l, t.getLast? = some l := by
    rw [List.getLast?_eq_getElem?]
    rw [hst] at hlen
    exact ⟨_, List.getElem?_eq_getElem (by omega)⟩
   simp only [hl, ht.tail l hl, decide_true, Bool.and_true]
theorem Q1 (s a : Int) (k : Nat) (st : List Ao) (nd : List AM) (x : AE) (w : Cp) (r : AO) (hk : st.length + (k + 1) = 13) (h : r ∈ Hg p s k st nd x (a :: st.map (·.elem)) w) : r.steps[st.length]? = some ⟨x.elem, x.fin, w.out⟩ := by
 unfold Hg at h
 split at h
 .simp at h; subst h; simp [Hq]
 split at h
 .simp at h; subst h; simp [Hq]
 rename_i y hy
 have hmm : a :: st.map (·.elem) ++ [x.elem] = a :: (st ++ [(⟨x.elem, x.fin, w.out⟩ : Ao)]).map (·.elem) := by simp
 rw [hmm] at h
 obtain ⟨t, ht, -⟩ := Ou s a k _ _ y r (by simp; omega) h
 rw [ht.steps]; simp
theorem Q2 (s a : Int) : ∀ (k : Nat) (st : List Ao) (nd : List AM) (x : AE), st.length + k = 13 -> (Mr p s k st nd x (a :: st.map (·.elem))).Nodup
 | 0, st, nd, x, hk => by simp [Mr]
 | k + 1, st, nd, x, hk => by
  rw [MW]
  split
  .simp
  split
  .simp
  unfold List.Nodup; rw [List.pairwise_flatMap]
  refine ⟨fun w hw => ?_, ?_⟩
  .unfold Hg
   split
   .simp
   split
   .simp
   rename_i y hy
   have hmm : a :: st.map (·.elem) ++ [x.elem] = a :: (st ++ [(⟨x.elem, x.fin, w.out⟩ : Ao)]).map (·.elem) := by simp
   rw [hmm]
   exact Q2 s a k _ _ y (by simp; omega)
  refine (Qz p x.elem x.fin).imp fun {w v} hwv => ?_
  rintro r hr1 r2 hr2 rfl
  have h1 := Q1 s a k st nd x w r (by omega) hr1
  have h2 := Q1 s a k st nd x v r (by omega) hr2
  rw [h1] at h2
  simp at h2
  exact hwv h2
theorem Vx (s : Int) : (EZ p s).Nodup := by
 unfold EZ
 split
 .simp
 split
 .simp
 rename_i sg _ _ y _
 have := Q2 (p := p) s sg.at_.elem 13 [] [] y rfl
 simpa using this
end
end Go.E
/- Plain Lean: RoadOfs, RoadAlls, RoadIsOne, RoadTurned and RoadEach answer true, for every argument. No condition. -/
namespace Go.E
open Go
theorem Zo {n : Int} (h : (Lit.int .u8 n).wf = true) : 0 <= n /\ n <= 255 /\ AZ n = n := by
 have : 0 <= n /\ n <= 255 := by simpa [Lit.wf, IntKind.min, IntKind.max, IntKind.signed, IntKind.bits] using h
 exact ⟨this.1, this.2, by rw [CR] <;> omega⟩
section
variable {p : AH} {n : CF}
theorem X6 (s : Int) : (EZ p s).length <= 2 ^ 13 := by
 unfold EZ
 split
 .simp
 split
 .simp
 exact QT p s 13 _ _ _ _
def Hh (p : AH) (i : Nat) : List AO := (List.range i).flatMap fun (s : Nat) => EZ p (s : Int)
def Kc (p : AH) : List AO := Hh p p.signals.length
theorem Ng (i : Nat) : Hh p (i + 1) = Hh p i ++ EZ p (i : Int) := by
 unfold Hh
 rw [List.range_succ, List.flatMap_append]; simp
theorem W4 {i : Nat} {r : AO} (h : r ∈ Hh p i) : ∃ s : Int, r ∈ EZ p s := by
 obtain ⟨s, _, hs⟩ := List.mem_flatMap.1 h
 exact ⟨_, hs⟩
theorem Q3 {i : Nat} : ∀ {j : Nat}, i <= j -> (Hh p i).length <= (Hh p j).length
  | 0, h => by have : i = 0 := by omega
               subst this; exact Nat.le_refl _
  | j + 1, h => by
    by_cases e : i = j + 1
    . subst e; exact Nat.le_refl _
    have := Q3 (i := i) (j := j) (by omega)
    rw [Ng, List.length_append]; omega
def C9 (p : AH) : List AO × Int := if 64 < (Kc p).length then ([], 3) else (Kc p, 0)
theorem Us (hv : B8 p) : JY p = some (C9 p) := by
 have hs := hv.ns
 unfold JY
 obtain ⟨b, h1, h2⟩ := B9 (l := p.signals) (step := Ev p) (Post := fun b => b = C9 p) (fun i o => o = Hh p i /\ o.length <= 64) (c := [])
  (fun o ho => by
   refine ⟨C9 p, ?_, rfl⟩
   unfold C9 Kc
   rw [<- ho.1, if_neg (by omega)]
   simp [Ev])
  (fun i a o ha ho => by
   have hi := Ba ha
   have h2 := X6 (p := p) (i : Int)
   have hb : o.length + (EZ p (i : Int)).length <= 4294967296 := by have := ho.2; omega
   have hlen : (o ++ EZ p (i : Int)) = Hh p (i + 1) := by rw [Ng, ho.1]
   by_cases c : 64 < (o ++ EZ p (i : Int)).length
   .refine .inl ⟨([], 3), ?_, ?_⟩
    .have d : decide (64 < ((o ++ EZ p (i : Int)).length : Int)) = true := by simp only [decide_eq_true_eq]; omega
     simp only [Ev, Be ha, cond_true, Xd hv.few, Option.bind_some, BP hb, d]
    unfold C9 Kc
    have := Q3 (p := p) (show i + 1 <= p.signals.length by omega)
    rw [hlen] at c
    rw [if_pos (by omega)]
   refine .inr ⟨o ++ EZ p (i : Int), ?_, hlen, by omega⟩
   have d : decide (64 < ((o ++ EZ p (i : Int)).length : Int)) = false := by simp only [decide_eq_false_iff_not]; omega
   simp only [Ev, Be ha, cond_true, Xd hv.few, Option.bind_some, BP hb, d, cond_false, AT (show i < 1000000000 by omega)])
  ⟨by simp [Hh], by simp⟩
 rw [h1, h2]
theorem Ss {r : AO} (h : r ∈ (C9 p).1) : ∃ s : Int, r ∈ EZ p s := by
 unfold C9 at h
 split at h
 .simp at h
 exact W4 h
end
end Go.E
/- Plain Lean: RoadRuns answers true, for every argument. No condition. -/
namespace Go.E
open Go
def W5 (pos : List Int) (e : Int) : Int := (Ak pos e).getD 0
section
variable {p : AH} {n : CF}
theorem Ut (p : AH) (e i : Int) : Bn p e i = [] \/ (∃ w, Bn p e i = [w]) \/ Bn p e i = [⟨1, 1⟩, ⟨2, 2⟩] := by
 unfold Bn
 split
 .split
  .exact .inr (.inl ⟨_, rfl⟩)
  split
  .exact .inr (.inl ⟨_, rfl⟩)
  split
  .split
   .exact .inr (.inr rfl)
   exact .inr (.inl ⟨_, rfl⟩)
  exact .inl rfl
 exact .inl rfl
theorem J1 {e i x : Int} {w : Cp} (hw : w ∈ Bn p e i) (hx : w.pos = 0 \/ w.pos = x) : BC p e i x = some w.out := by
 unfold BC
 rcases Ut p e i with h | ⟨v, h⟩ | h
 .rw [h] at hw; simp at hw
 .rw [h] at hw ⊢
  simp at hw
  subst hw
  simp only [CM, if_pos hx]
 rw [h] at hw ⊢
 simp at hw
 rcases hw with rfl | rfl
 .simp only [CM, if_pos hx]
 have : x = 2 := by simp at hx; omega
 subst this
 simp [CM]
theorem Nh {e i x o : Int} (h : BC p e i x = some o) : ∃ w ∈ Bn p e i, w.out = o /\ (w.pos = 0 \/ w.pos = x) := by
 unfold BC at h
 have key : ∀ l : List Cp, CM l x = some o -> ∃ w ∈ l, w.out = o /\ (w.pos = 0 \/ w.pos = x) := by
  intro l
  induction l with
  | nil => intro h; simp [CM] at h
  | cons w l ih =>
   intro h
   unfold CM at h
   split at h
   .rename_i hx
    exact ⟨w, by simp, by simpa using h, hx⟩
   obtain ⟨v, hv, h1⟩ := ih h
   exact ⟨v, by simp [hv], h1⟩
 exact key _ h
theorem Ni {a : Int} : ∀ {t : List Ao} {x : Option AE} {pv : List Ao} {nd nd' : List AM}, (∀ m ∈ nd, m.elem ∈ pv.map (·.elem) /\ AY p m.elem = 2 /\ (m.pos = 1 \/ m.pos = 2)) -> nd.Pairwise (fun a b => a.elem ≠ b.elem) -> CQ p a x pv nd t = some nd' ->
  (∀ m ∈ nd', m.elem ∈ (pv ++ t).map (·.elem) /\ AY p m.elem = 2 /\ (m.pos = 1 \/ m.pos = 2)) /\ nd'.Pairwise (fun a b => a.elem ≠ b.elem) /\ ∀ m ∈ nd, m ∈ nd'
 | [], x, pv, nd, nd', h1, h2, h => by
  have : nd = nd' := by cases x <;> simpa [CQ] using h
  subst this
  exact ⟨by simpa using h1, h2, fun m hm => hm⟩
 | s :: r, none, pv, nd, nd', h1, h2, h => by simp [CQ] at h
 | s :: r, some x, pv, nd, nd', h1, h2, h => by
  unfold CQ at h
  split at h
  .cases h
  rename_i hc
  split at h
  .split at h
   .cases h
    exact ⟨fun m hm => ⟨by have := (h1 m hm).1; simp at this ⊢; exact .inl this, (h1 m hm).2⟩, h2, fun m hm => hm⟩
   cases h
  cases hw : QU (Bn p s.elem s.in_) s.out with
  | none => rw [hw] at h; cases h
  | some w =>
   rw [hw] at h
   simp only at h
   split at h
   .cases h
   have hf := Jf (Q0 hw).1
   have hsub : ∀ m ∈ FY nd s.elem w.pos, m ∈ nd \/ (m = ⟨s.elem, w.pos⟩ /\ w.pos ≠ 0) := by
    intro m hm
    unfold FY at hm
    split at hm
    .exact .inl hm
    rename_i c
    rcases List.mem_append.1 hm with hm | hm
    .exact .inl hm
    exact .inr ⟨by simpa using hm, c⟩
   have hnot : s.elem ∉ pv.map (·.elem) := fun h => hc (.inr (.inr (.inr h)))
   obtain ⟨g1, g2, g3⟩ := Ni (nd := FY nd s.elem w.pos) (pv := pv ++ [s]) (fun m hm => by
    rcases hsub m hm with hm | ⟨rfl, hp⟩
    .exact ⟨by have := (h1 m hm).1; simp at this ⊢; exact .inl this, (h1 m hm).2⟩
    .exact ⟨by simp, hf.2.2.2.2.2 hp⟩) (by
    unfold FY
    split
    .exact h2
    rw [List.pairwise_append]
    refine ⟨h2, by simp, fun m hm q hq => ?_⟩
    simp at hq
    subst hq
    intro he
    simp only at he
    rw [<- he] at hnot
    exact hnot (h1 m hm).1) h
   refine ⟨fun m hm => ?_, g2, fun m hm => g3 m ?_⟩
   .have := g1 m hm
    simpa using this
   unfold FY
   split
   .exact hm
   exact List.mem_append.2 (.inl hm)
theorem J2 {e : Int} (h : AY p e ≠ 0) : 0 <= e /\ e < p.elems.length := by
 unfold AY at h
 cases hi : Ak p.elems e with
 | none => rw [hi] at h; simp at h
 | some a => exact QR hi
theorem Hr {r : AO} (h : T6 p r = true) : ∃ sg nd l, Ak p.signals r.frm = some sg /\ 1 <= r.steps.length /\ r.steps.length <= 12 /\ CQ p sg.at_.elem (Ap p sg.at_) [] [] r.steps = some nd /\ r.steps.getLast? = some l /\ MY p r.fin r.to l = true /\ r.needs = nd := by
 unfold T6 at h
 cases hi : Ak p.signals r.frm with
 | none => rw [hi] at h; cases h
 | some sg =>
  rw [hi] at h
  simp only at h
  split at h
  .cases h
  cases hs : CQ p sg.at_.elem (Ap p sg.at_) [] [] r.steps with
  | none => rw [hs] at h; cases h
  | some nd =>
   rw [hs] at h
   cases hl : r.steps.getLast? with
   | none => rw [hl] at h; cases h
   | some l =>
    rw [hl] at h
    simp only [Bool.and_eq_true, decide_eq_true_eq] at h
    exact ⟨sg, nd, l, rfl, by omega, by omega, hs, rfl, h.1, h.2⟩
end
end Go.E
/- Plain Lean: RoadRuns answers true, for every argument. No condition. -/
namespace Go.E
open Go
section
variable {p : AH} {n : CF}
end
end Go.E
/- Plain Lean: RoadWhole answers true, for every argument. No condition. -/
namespace Go.E
open Go
section
variable {p : AH} {n : CF}
end
end Go.E
/- Reach hands the keys of a map out in whatever order and sorts them: what it answers has no order in it; the example that the laws of sides AF at. No condition. -/
namespace Go.E
open Go Go.Proofs
theorem OO {a b : List Int} (h : a.Perm b) : Gv a = Gv b :=
 List.Perm.eq_of_pairwise (le := fun a b : Int => a <= b) (fun a b _ _ h1 h2 => Int.le_antisymm h1 h2) (J0 a) (J0 b) ((IK a).trans (h.trans (IK b).symm))
theorem IL {α : Type} : ∀ {l : List α} {j : Nat} {y : α}, l[j]? = some y -> (y :: l.eraseIdx j).Perm l
 | x :: l, 0, y, h => by
  rw [List.getElem?_cons_zero] at h
  cases h
  rw [List.eraseIdx_cons_zero]
 | x :: l, j + 1, y, h => by
  rw [List.getElem?_cons_succ] at h
  rw [List.eraseIdx_cons_succ]
  exact (List.Perm.swap x y _).trans ((IL h).cons x)
set_option maxRecDepth 100000
end Go.E
/- Plain Lean: the ports on the sides of a road, and what is its own: the program's answer and the document's are one (laws SidePorts, SideOwns). No condition. -/
namespace Go.E
open Go
theorem W8 {l : List Ao} {e : Int} : decide (e ∈ l.map (·.elem)) = (l.find? fun s => s.elem == e).isSome := by
 induction l with
 | nil => simp
 | cons a l ih =>
  rw [List.find?_cons]
  by_cases c : a.elem = e
  .simp [c]
  have : (a.elem == e) = false := beq_eq_false_iff_ne.2 c
  rw [this]
  simp only [List.map_cons, List.mem_cons, Ne.symm c, false_or]
  exact ih
theorem Yu (r : AO) (hl : r.steps.length < 1000000) (e : Int) : MS r e = some (decide (e ∈ r.steps.map (·.elem))) := by
 unfold MS
 obtain ⟨t, h1, h2⟩ := MX (l := r.steps) (f := fun s => s.elem == e) hl (step := HW r e) (by simp [HW]) (fun i a ha => by
  have := Ba ha
  simp only [HW, NY, Be ha, cond_true, Ah, ha, Option.bind_some, AT (show i < 1000000000 by omega)]
  by_cases c : a.elem = e
  .simp [c]
  have : (a.elem == e) = false := beq_eq_false_iff_ne.2 c
  simp [this])
 rw [h1, W8]
 simp only [Option.bind_some, Option.some.injEq]
 rcases h2 with ⟨rfl, h2⟩ | ⟨a, h0, h2, _⟩
 .rw [h2]; rfl
 rw [h2]; simp [h0]
theorem X7 (r : AO) (hl : r.steps.length < 1000000) (e : Int) : JZ r e = some (decide (e ∈ r.steps.map (·.elem))) := by
 unfold JZ
 simp only [Nf r hl, Option.bind_some, Pn (r.steps.map (·.elem)) (by simpa using hl)]
theorem K1 {α β γ : Type} (B : Nat) {l : List α} (f : α -> List β) (hf : ∀ a, (f a).length <= 4) (hl : l.length <= 100000) {step : Int × List β -> Option (Int × List β ⊕ γ)} {fin : List β -> γ}
  (h0 : ∀ o, step ((l.length : Int), o) = some (.inr (fin o))) (h1 : ∀ (i : Nat) a o, l[i]? = some a -> o.length <= B + 400000 -> step ((i : Int), o) = some (.inl (((i + 1 : Nat) : Int), o ++ f a))) (o : List β) (ho : o.length <= B) :
  AQ step ((0 : Int), o) = some (fin (o ++ l.flatMap f)) := by
 have hlen : ∀ i, ((l.take i).flatMap f).length <= i * 4 := by
  intro i
  induction i with
  | zero => simp
  | succ i ih =>
   rw [List.take_add_one, List.flatMap_append, List.length_append]
   cases h : l[i]? with
   | none => simp only [Option.toList_none, List.flatMap_nil, List.length_nil]; omega
   | some a =>
    have := hf a
    simp only [Option.toList_some, List.flatMap_cons, List.flatMap_nil, List.append_nil]
    omega
 obtain ⟨b, h2, rfl⟩ := B9 (l := l) (step := step) (Post := fun b => b = fin (o ++ l.flatMap f)) (fun i c => c = o ++ (l.take i).flatMap f) (c := o)
  (fun c hc => ⟨fin c, h0 c, by rw [hc, List.take_length]⟩)
  (fun i a c ha hc => by
   have hi := Ba ha
   have := hlen i
   refine .inr ⟨c ++ f a, h1 i a c ha (by rw [hc, List.length_append]; omega), ?_⟩
   rw [hc, List.take_add_one, ha]
   simp only [Option.toList_some, List.flatMap_append, List.flatMap_cons, List.flatMap_nil, List.append_nil, List.append_assoc])
  (by simp)
 exact h2
section
variable {p : AH} {n : CF}
def JF (p : AH) (s : Ao) : List Int :=
 if AY p s.elem = 2 then [AZ (3 - (if s.out > s.in_ then s.out else s.in_))] else if AY p s.elem = 3 then (if 1 < s.in_ then [0, 1] else [2, 3]) else []
def JG (p : AH) (e : Int) (k : Int) : List AE := if (Ap p ⟨e, k⟩).isSome then [⟨e, k⟩] else []
def Jg (p : AH) (s : Ao) : List AE := (JF p s).flatMap (JG p s.elem)
def DI (p : AH) (l : List Ao) : List AE := l.flatMap (Jg p)
theorem Nl (s : Ao) : (JF p s).length <= 2 := by
 unfold JF
 split
 .simp
 split
 .split <;> simp
 simp
theorem Q4 (e k : Int) : (JG p e k).length <= 1 := by unfold JG; split <;> simp
theorem MZ (s : Ao) : (Jg p s).length <= 2 := by
 have := Je (JG p s.elem) 1 (JF p s) fun k _ => Q4 s.elem k
 have := Nl (p := p) s
 unfold Jg
 omega
theorem J3 (l : List Ao) : (DI p l).length <= l.length * 2 := Je _ 2 l fun s _ => MZ s
theorem W9 (hn : Ck p n) (s : Ao) (c : Int × List AE) (ks : List Int) (hk : ks.length <= 10) (o : List AE) (ho : o.length <= 400000) :
  AQ (GA n c s ks) (0, o) = some (.inl (AZ (c.1 + 1), o ++ ks.flatMap (JG p s.elem))) := by
 refine K1 400000 (l := ks) (JG p s.elem) (fun k => by have := Q4 (p := p) s.elem k; omega) (by omega) (fin := fun o => (Sum.inl (AZ (c.1 + 1), o) : (Int × List AE) ⊕ List AE)) (fun o => ?_) (fun i a o ha hb => ?_) o ho
 .simp only [GA, B7, cond_false]
 have := Ba ha
 simp only [GA, Be ha, cond_true, Ah, ha, Option.bind_some, Ot hn, AT (show i < 1000000000 by omega)]
 unfold JG
 cases (Ap p ⟨s.elem, a⟩).isSome with
 | true => simp [BP (show o.length + [(⟨s.elem, a⟩ : AE)].length <= 4294967296 by simp; omega)]
 | false => simp
theorem XA (hn : Ck p n) (r : AO) (hl : r.steps.length <= 1000) : KV n r = some (DI p r.steps) := by
 unfold KV
 rw [show DI p r.steps = ([] : List AE) ++ r.steps.flatMap (Jg p) from rfl]
 refine K1 0 (l := r.steps) (Jg p) (fun s => by have := MZ (p := p) s; omega) (by omega) (fin := fun o => o) (fun o => ?_) (fun i s o ha hb => ?_) [] (by simp)
 .simp only [IE, B7, cond_false]
 have hi := Ba ha
 simp only [IE, Be ha, cond_true, Ah, ha, Option.bind_some, Oq hn]
 have e : (bif (AY p s.elem == 2) then some [AZ (3 - (if s.out > s.in_ then s.out else s.in_))] else bif (AY p s.elem == 3) then bif decide (1 < s.in_) then some [0, 1] else some [2, 3] else some ([] : List Int) : Option (List Int)) = some (JF p s) := by
  unfold JF
  by_cases c2 : AY p s.elem = 2
  .simp [c2]
  have b2 : (AY p s.elem == 2) = false := beq_eq_false_iff_ne.2 c2
  by_cases c3 : AY p s.elem = 3
  .by_cases d : 1 < s.in_ <;> simp [b2, c2, c3, d]
  have b3 : (AY p s.elem == 3) = false := beq_eq_false_iff_ne.2 c3
  simp [b2, b3, c2, c3]
 rw [e]
 have hk := Nl (p := p) s
 simp only [Option.bind_some, W9 hn s ((i : Int), o) (JF p s) (by omega) o (by omega), AT (show i < 1000000000 by omega)]
 rfl
theorem Vy (hv : B8 p) (e : Int) (c : Int × List AE) (ks : List Int) (hk : ks.length <= 10) (o : List AE) (ho : o.length <= 400000) :
  AQ (Ew p c (ks.map fun k => (⟨e, k⟩ : AE))) (0, o) = some (.inl (AZ (c.1 + 1), o ++ ks.flatMap (JG p e))) := by
 have hj := hv.nj
 have e1 : ks.flatMap (JG p e) = (ks.map fun k => (⟨e, k⟩ : AE)).flatMap fun x => if (Ap p x).isSome then [x] else [] := by
  rw [List.flatMap_map]; rfl
 rw [e1]
 refine K1 400000 (l := ks.map fun k => (⟨e, k⟩ : AE)) (fun x => if (Ap p x).isSome then [x] else []) (fun k => by split <;> simp) (by simp; omega) (fin := fun o => (Sum.inl (AZ (c.1 + 1), o) : (Int × List AE) ⊕ List AE)) (fun o => ?_) (fun i a o ha hb => ?_) o ho
 .simp only [Ew, B7, cond_false]
 have hi := Ba ha
 rw [List.length_map] at hi
 simp only [Ew, Be ha, cond_true, Ah, ha, Option.bind_some, CL p (by omega), AT (show i < 1000000000 by omega)]
 cases (Ap p a).isSome with
 | true => simp [BP (show o.length + [a].length <= 4294967296 by simp; omega)]
 | false => simp
theorem Vz (hv : B8 p) (r : AO) (hl : r.steps.length <= 1000) : HJ p r = some (DI p r.steps) := by
 unfold HJ
 rw [show DI p r.steps = ([] : List AE) ++ r.steps.flatMap (Jg p) from rfl]
 refine K1 0 (l := r.steps) (Jg p) (fun s => by have := MZ (p := p) s; omega) (by omega) (fin := fun o => o) (fun o => ?_) (fun i s o ha hb => ?_) [] (by simp)
 .simp only [Gu, B7, cond_false]
 have hi := Ba ha
 have w1 : AZ (0 + 1) = 1 := by decide
 have w3 : AZ (2 + 1) = 3 := by decide
 simp only [Gu, Be ha, cond_true, Ah, ha, Option.bind_some, Kb]
 have e : (bif (AY p s.elem == 2) then (BO ([] : List AE) [(⟨s.elem, AZ (3 - (if s.out > s.in_ then s.out else s.in_))⟩ : AE)]).bind fun y => some y else bif (AY p s.elem == 3) then ((bif decide (2 <= s.in_) then some 0 else some 2 : Option (Int))).bind fun (t : Int) => (BO ([] : List AE) [(⟨s.elem, t⟩ : AE), (⟨s.elem, AZ (t + 1)⟩ : AE)]).bind fun y => some y else some ([] : List AE) : Option (List AE)) = some ((JF p s).map fun k => (⟨s.elem, k⟩ : AE)) := by
  unfold JF
  by_cases c2 : AY p s.elem = 2
  .simp [c2, BO]
  have b2 : (AY p s.elem == 2) = false := beq_eq_false_iff_ne.2 c2
  by_cases c3 : AY p s.elem = 3
  .by_cases d : 1 < s.in_
   .have d2 : decide (2 <= s.in_) = true := by simp; omega
    simp only [b2, c2, c3, d, d2, cond_false, cond_true, if_false, if_true, beq_self_eq_true, Option.bind_some, w1, BO, List.length_nil, List.length_cons, List.nil_append, List.map_cons, List.map_nil]
    simp
   have d2 : decide (2 <= s.in_) = false := by simp; omega
   simp only [b2, c2, c3, d, d2, cond_false, cond_true, if_false, if_true, beq_self_eq_true, Option.bind_some, w3, BO, List.length_nil, List.length_cons, List.nil_append, List.map_cons, List.map_nil]
   simp
  have b3 : (AY p s.elem == 3) = false := beq_eq_false_iff_ne.2 c3
  simp [b2, b3, c2, c3]
 rw [e]
 have hk := Nl (p := p) s
 simp only [Option.bind_some, Vy hv s.elem ((i : Int), o) (JF p s) (by omega) o (by omega), AT (show i < 1000000000 by omega)]
 rfl
theorem Hs {s : Int} {r : AO} (h : r ∈ EZ p s) : r.steps.length <= 12 := (D8 h).2.2.2.2.2.2.1
end
end Go.E
/- Plain Lean: which ports lie on the sides of a road (law SideApart). No condition. -/
namespace Go.E
open Go
section
variable {p : AH} {n : CF}
def Sv (p : AH) (s : Ao) : Prop :=
 AY p s.elem = 4 \/ (AY p s.elem = 1 /\ ((s.in_ = 0 /\ s.out = 1) \/ (s.in_ = 1 /\ s.out = 0))) \/
 (AY p s.elem = 2 /\ ((s.in_ = 0 /\ s.out = 1) \/ (s.in_ = 0 /\ s.out = 2) \/ (s.in_ = 1 /\ s.out = 0) \/ (s.in_ = 2 /\ s.out = 0))) \/
 (AY p s.elem = 3 /\ ((s.in_ = 0 /\ s.out = 1) \/ (s.in_ = 1 /\ s.out = 0) \/ (s.in_ = 2 /\ s.out = 3) \/ (s.in_ = 3 /\ s.out = 2)))
theorem Ux {e i : Int} {w : Cp} (h : w ∈ Bn p e i) : Sv p ⟨e, i, w.out⟩ := by
 have hf := Jf h
 have hh : Cj p ⟨e, i⟩ = true := by
  cases hh : Cj p ⟨e, i⟩ with
  | true => rfl
  | false => unfold Bn at h; rw [hh] at h; simp at h
 obtain ⟨h1, h2, h3⟩ := Dh hh
 simp only at h1 h2 h3
 unfold Bn at h
 rw [hh] at h
 simp only [if_true] at h
 unfold Sv
 simp only
 by_cases k1 : AY p e = 1
 .rw [k1] at h h3 ⊢
  simp [Bx] at h h3
  subst h
  have : i = 0 \/ i = 1 := by omega
  rcases this with rfl | rfl <;> simp
 by_cases k3 : AY p e = 3
 .rw [k3] at h h3 ⊢
  simp [Bx] at h h3
  subst h
  have : i = 0 \/ i = 1 \/ i = 2 \/ i = 3 := by omega
  rcases this with rfl | rfl | rfl | rfl <;> simp
 by_cases k2 : AY p e = 2
 .rw [k2] at h h3 ⊢
  simp [Bx] at h h3
  by_cases i0 : i = 0
  .subst i0
   simp at h
   rcases h with rfl | rfl <;> simp
  rw [if_neg i0] at h
  simp at h
  subst h
  have : i = 1 \/ i = 2 := by omega
  rcases this with rfl | rfl <;> simp
 rw [if_neg k1, if_neg k3, if_neg k2] at h; simp at h
theorem Sw {a : Int} : ∀ {t : List Ao} {x : Option AE} {pv : List Ao} {nd nd' : List AM}, CQ p a x pv nd t = some nd' -> (∀ s ∈ t, Sv p s /\ s.elem ∉ pv.map (·.elem)) /\ (t.map (·.elem)).Nodup
 | [], x, pv, nd, nd', h => ⟨by simp, by simp⟩
 | s :: r, none, pv, nd, nd', h => by simp [CQ] at h
 | s :: r, some x, pv, nd, nd', h => by
  unfold CQ at h
  split at h
  .cases h
  rename_i hc
  have hnot : s.elem ∉ pv.map (·.elem) := fun h => hc (.inr (.inr (.inr h)))
  split at h
  .rename_i k4
   split at h
   .rename_i hr
    obtain ⟨rfl, _⟩ := hr
    exact ⟨fun q hq => by simp at hq; subst hq; exact ⟨.inl k4, hnot⟩, by simp⟩
   cases h
  cases hw : QU (Bn p s.elem s.in_) s.out with
  | none => rw [hw] at h; cases h
  | some w =>
   rw [hw] at h
   simp only at h
   split at h
   .cases h
   obtain ⟨g1, g2⟩ := Sw h
   obtain ⟨hw1, hw2⟩ := Q0 hw
   have hok := Ux hw1
   rw [hw2] at hok
   refine ⟨fun q hq => ?_, ?_⟩
   .rcases List.mem_cons.1 hq with rfl | hq
    .exact ⟨hok, hnot⟩
    refine ⟨(g1 q hq).1, fun hm => (g1 q hq).2 ?_⟩
    simp at hm ⊢
    exact .inl hm
   rw [List.map_cons, List.nodup_cons]
   refine ⟨fun hm => ?_, g2⟩
   obtain ⟨q, hq, he⟩ := List.mem_map.1 hm
   refine (g1 q hq).2 ?_
   rw [he]
   simp
theorem V0 {s : Int} {r : AO} (h : r ∈ EZ p s) : (∀ q ∈ r.steps, Sv p q) /\ (r.steps.map (·.elem)).Nodup := by
 obtain ⟨sg, nd, l, _, _, _, h4, _⟩ := Hr (D8 h).1
 obtain ⟨h1, h2⟩ := Sw h4
 exact ⟨fun q hq => (h1 q hq).1, h2⟩
theorem X8 (k : Int) : 0 <= Bx k /\ Bx k <= 4 := by
 unfold Bx
 repeat' split
 all_goals omega
end
end Go.E
/- Plain Lean: what the sides of a road reach, told without an order (Ms, J4): the program's answer. No condition. -/
namespace Go.E
open Go
def BR (vis : List (AE × Bool)) (x : AE) : Bool := (AW vis x).getD false
theorem FZ (vis : List (AE × Bool)) (x y : AE) : BR (Ay x true vis) y = true ↔ y = x \/ BR vis y = true := by
 unfold BR
 rw [Dw]
 by_cases e : y = x <;> simp [e]
theorem LN {α : Type} {P P' : α -> Bool} (hpp : ∀ z, P' z = true -> P z = true) : ∀ l : List α, (l.filter P').length <= (l.filter P).length /\ ∀ x ∈ l, P x = true -> P' x = false -> (l.filter P').length + 1 <= (l.filter P).length
 | [] => ⟨Nat.le_refl _, by simp⟩
 | a :: l => by
  obtain ⟨h1, h2⟩ := LN hpp l
  rw [List.filter_cons, List.filter_cons]
  by_cases c : P' a = true
  .rw [if_pos c, if_pos (hpp a c)]
   simp only [List.length_cons]
   refine ⟨by omega, fun x hx hp hp' => ?_⟩
   rcases List.mem_cons.1 hx with rfl | hx
   .rw [c] at hp'; cases hp'
   have := h2 x hx hp hp'; omega
  rw [if_neg c]
  by_cases d : P a = true
  .rw [if_pos d]
   simp only [List.length_cons]
   exact ⟨by omega, fun x hx hp hp' => by omega⟩
  rw [if_neg d]
  refine ⟨h1, fun x hx hp hp' => ?_⟩
  rcases List.mem_cons.1 hx with rfl | hx
  .exact absurd hp d
  exact h2 x hx hp hp'
section
variable {p : AH} {n : CF}
def OA (p : AH) (shut : List Bool) (x : AE) : Bool := decide (0 <= A0 p x) && (Ak shut (A0 p x)).getD false
inductive Ms (p : AH) (pos : List Int) (shut : List Bool) (st : List Ao) : AE -> Prop
 | init {x y : AE} : x ∈ DI p st -> Ap p x = some y -> Ms p pos shut st y
 | step {x y : AE} {o : Int} : Ms p pos shut st x -> x.elem ∉ st.map (·.elem) -> OA p shut x = false -> AY p x.elem ≠ 4 -> BC p x.elem x.fin (W5 pos x.elem) = some o -> Ap p ⟨x.elem, o⟩ = some y -> Ms p pos shut st y
def J4 (p : AH) (pos : List Int) (shut : List Bool) (st : List Ao) (e : Int) : Prop :=
 ∃ x, Ms p pos shut st x /\ x.elem = e /\ e ∉ st.map (·.elem) /\ OA p shut x = false /\ (AY p e = 4 \/ (BC p e x.fin (W5 pos e)).isSome = true)
variable {pos : List Int} {shut : List Bool} {r : AO}
theorem Ms.from {st : List Ao} {y : AE} (h : Ms p pos shut st y) : ∃ x, Ap p x = some y := by
 cases h with
 | init h1 h2 => exact ⟨_, h2⟩
 | step _ _ _ _ _ h2 => exact ⟨_, h2⟩
theorem V1 {x : AE} (h : Cj p x = true) : 0 <= x.elem /\ x.elem < p.elems.length := by
 obtain ⟨h1, h2, h3⟩ := Dh h
 refine J2 fun e => ?_
 rw [e] at h3
 simp [Bx] at h3
 omega
def Pq (vis : List (AE × Bool)) (zone : List (Int × Bool)) (p : AH) (y : AE) : Prop := BR vis y = true \/ (AY p y.elem = 4 /\ (AW zone y.elem).isSome = true)
def Uy (p : AH) (pos : List Int) (shut : List Bool) (st : List Ao) (q : List AE) (vis : List (AE × Bool)) (zone : List (Int × Bool)) (x : AE) : Prop :=
 x.elem ∉ st.map (·.elem) -> OA p shut x = false -> AY p x.elem ≠ 4 /\ ∀ o, BC p x.elem x.fin (W5 pos x.elem) = some o -> (AW zone x.elem).isSome = true /\ ∀ y, Ap p ⟨x.elem, o⟩ = some y -> y ∈ q \/ Pq vis zone p y
def GC (p : AH) (vis : List (AE × Bool)) : Nat := ((B4 p).filter fun x => !BR vis x).length
structure RI (p : AH) (pos : List Int) (shut : List Bool) (st : List Ao) (M k : Nat) (q : List AE) (vis : List (AE × Bool)) (zone : List (Int × Bool)) : Prop where
 arr : ∀ x ∈ q, Ms p pos shut st x
 full : ∀ x, BR vis x = true -> Uy p pos shut st q vis zone x
 init : ∀ x y, x ∈ DI p st -> Ap p x = some y -> y ∈ q \/ Pq vis zone p y
 zon : ∀ e, (AW zone e).isSome = true -> J4 p pos shut st e
 nodup : (zone.map (·.1)).Nodup
 len : zone.length <= k
 meas : k + q.length + 2 * GC p vis <= M
theorem RI.next {st : List Ao} {M k : Nat} {x : AE} {q q' : List AE} {vis vis' : List (AE × Bool)} {zone zone' : List (Int × Bool)} (h : RI p pos shut st M k (x :: q) vis zone)
  (hq : ∀ y ∈ q, y ∈ q') (hq2 : ∀ y ∈ q', Ms p pos shut st y) (hv : ∀ y, BR vis y = true -> BR vis' y = true) (hv2 : ∀ y, BR vis' y = true -> BR vis y = true \/ y = x)
  (hz : ∀ e, (AW zone e).isSome = true -> (AW zone' e).isSome = true) (hz2 : ∀ e, (AW zone' e).isSome = true -> J4 p pos shut st e) (hz3 : (zone'.map (·.1)).Nodup) (hz4 : zone'.length <= zone.length + 1)
  (hx : Pq vis' zone' p x) (hf : BR vis' x = true -> BR vis x = false -> Uy p pos shut st q' vis' zone' x) (hm : q'.length + 2 * GC p vis' <= q.length + 2 * GC p vis) : RI p pos shut st M (k + 1) q' vis' zone' := by
 have keep : ∀ y, (y ∈ x :: q \/ Pq vis zone p y) -> y ∈ q' \/ Pq vis' zone' p y := by
  rintro y (hy | hy | ⟨hy, hy2⟩)
  .rcases List.mem_cons.1 hy with rfl | hy
   .exact .inr hx
   exact .inl (hq y hy)
  .exact .inr (.inl (hv y hy))
  exact .inr (.inr ⟨hy, hz _ hy2⟩)
 refine ⟨hq2, fun y hy => ?_, fun a y ha hy => keep y (h.init a y ha hy), hz2, hz3, by have := h.len; omega, by have := h.meas; simp only [List.length_cons] at this; omega⟩
 have old : BR vis y = true -> Uy p pos shut st q' vis' zone' y := fun hy => fun h1 h2 => by
  obtain ⟨g1, g2⟩ := h.full y hy h1 h2
  exact ⟨g1, fun o ho => ⟨hz _ (g2 o ho).1, fun z hz' => keep z ((g2 o ho).2 z hz')⟩⟩
 rcases hv2 y hy with hy' | rfl
 .exact old hy'
 cases c : BR vis y with
 | true => exact old c
 | false => exact hf hy c
end
end Go.E
/- Plain Lean: the elements that Reach answers are those of J4, ascending (laws SideShut, SideRuns). No condition. -/
namespace Go.E
open Go
section
variable {p : AH} {n : CF} {pos : List Int} {shut : List Bool} {r : AO}
theorem V2 {vis : List (AE × Bool)} (x : AE) : GC p (Ay x true vis) <= GC p vis :=
 (LN (fun z hz => by
  cases hs : BR vis z with
  | false => rfl
  | true =>
   have := (FZ vis x z).2 (.inr hs)
   simp only [this, Bool.not_true] at hz
   cases hz) (B4 p)).1
theorem Sx {vis : List (AE × Bool)} {x : AE} (hx : x ∈ B4 p) (hv : BR vis x = false) : GC p (Ay x true vis) + 1 <= GC p vis :=
 (LN (fun z hz => by
  cases hs : BR vis z with
  | false => rfl
  | true =>
   have := (FZ vis x z).2 (.inr hs)
   simp only [this, Bool.not_true] at hz
   cases hz) (B4 p)).2 x hx (by simp [hv]) (by simp [(FZ vis x x).2 (.inl rfl)])
def Db (p : AH) (l : List AE) : List AE := l.map fun x => (Ap p x).getD ⟨0, 0⟩
theorem IR {l : List Ao} {x : AE} (h : x ∈ DI p l) : ∃ y, Ap p x = some y := by
 unfold DI Jg at h
 obtain ⟨s, _, h⟩ := List.mem_flatMap.1 h
 obtain ⟨k, _, h⟩ := List.mem_flatMap.1 h
 unfold JG at h
 split at h
 .rename_i hs
  simp at h
  subst h
  exact Option.isSome_iff_exists.1 hs
 simp at h
theorem Q5 {a b : List Bool} (h : ∀ j : Nat, a[j]? = some true -> b[j]? = some true) {x : AE} (hs : OA p b x = false) : OA p a x = false := by
 unfold OA at *
 by_cases c : 0 <= A0 p x
 .obtain ⟨i, hi⟩ := Int.eq_ofNat_of_zero_le c
  rw [hi] at hs ⊢
  simp only [Ah, Int.natCast_nonneg, decide_true, Bool.true_and] at hs ⊢
  cases ha : a[i]? with
  | none => rfl
  | some v =>
   cases v with
   | false => rfl
   | true => rw [h i ha] at hs; cases hs
 simp [c]
theorem Ms.mono {a b : List Bool} (h : ∀ j : Nat, a[j]? = some true -> b[j]? = some true) {st : List Ao} {x : AE} (hx : Ms p pos b st x) : Ms p pos a st x := by
 induction hx with
 | init h1 h2 => exact .init h1 h2
 | step h1 h2 h3 h4 h5 h6 ih => exact .step ih h2 (Q5 h h3) h4 h5 h6
theorem J4.mono {a b : List Bool} (h : ∀ j : Nat, a[j]? = some true -> b[j]? = some true) {st : List Ao} {e : Int} (hx : J4 p pos b st e) : J4 p pos a st e := by
 obtain ⟨x, h1, h2, h3, h4, h5⟩ := hx
 exact ⟨x, h1.mono h, h2, h3, Q5 h h4, h5⟩
theorem J4.range (hv : B8 p) {st : List Ao} {e : Int} (h : J4 p pos shut st e) : 0 <= e /\ e < p.elems.length := by
 obtain ⟨x, h1, rfl, _⟩ := h
 obtain ⟨w, hw⟩ := h1.from
 exact V1 (hv.join.next hw)
end
end Go.E
/- Plain Lean: what is reached is in order, outside the road, and no more if more signals are shut (law SideShut); a run that comes in from the side begins in it (law SideRuns). No condition. -/
namespace Go.E
open Go
section
variable {p : AH} {n : CF} {pos : List Int} {shut : List Bool} {r : AO}
end
end Go.E
/- Plain Lean: a run that comes in from the side begins in an element that is reached (law SideRuns). No condition. -/
namespace Go.E
open Go
theorem Ma {x : AE} : ∀ {l m : List Bl}, x ∉ (l.flatMap fun j => [j.a, j.b]) -> CX (l ++ m) x = CX m x
 | [], m, _ => rfl
 | j :: l, m, h => by
  simp only [List.flatMap_cons, List.mem_append, List.mem_cons, List.not_mem_nil, or_false, not_or] at h
  obtain ⟨⟨h1, h2⟩, h3⟩ := h
  simp only [List.cons_append, CX]
  rw [if_neg (fun e => h1 e.symm), if_neg (fun e => h2 e.symm)]
  exact Ma h3
theorem OQ {x y : AE} : ∀ {l : List Bl}, CX l x = some y -> ∃ l1 j l2, l = l1 ++ j :: l2 /\ ((j.a = x /\ j.b = y) \/ (j.b = x /\ j.a = y))
 | j :: l, h => by
  simp only [CX] at h
  split at h
  .rename_i e; cases h; exact ⟨[], j, l, rfl, .inl ⟨e, rfl⟩⟩
  split at h
  .rename_i e; cases h; exact ⟨[], j, l, rfl, .inr ⟨e, rfl⟩⟩
  obtain ⟨l1, k, l2, e, hk⟩ := OQ h
  exact ⟨j :: l1, k, l2, by rw [e]; rfl, hk⟩
section
variable {p : AH} {n : CF} {pos : List Int} {shut : List Bool} {r : AO}
theorem Ta (hj : FX p) : (B4 p).Nodup := by
 rw [List.Nodup, List.pairwise_iff_getElem]
 intro i k hi hk hlt
 exact hj.dist k i _ _ hlt (List.getElem?_eq_getElem hk) (List.getElem?_eq_getElem hi)
theorem Q6 (hj : FX p) {x y : AE} (h : Ap p x = some y) : Ap p y = some x := by
 obtain ⟨l1, j, l2, e, hk⟩ := OQ h
 have hnd := Ta hj
 unfold B4 at hnd
 unfold Ap
 rw [e] at hnd ⊢
 rw [List.flatMap_append, List.flatMap_cons, List.nodup_append] at hnd
 obtain ⟨_, h2, h3⟩ := hnd
 have ha : j.a ∉ l1.flatMap fun j => [j.a, j.b] := fun hm => h3 _ hm _ (by simp) rfl
 have hb : j.b ∉ l1.flatMap fun j => [j.a, j.b] := fun hm => h3 _ hm _ (by simp) rfl
 have hab : j.a ≠ j.b := by
  rw [List.nodup_append] at h2
  have := h2.1
  simpa using this
 rcases hk with ⟨rfl, rfl⟩ | ⟨rfl, rfl⟩
 .rw [Ma hb]
  simp [CX, hab]
 rw [Ma ha]
 simp [CX]
theorem V3 {e i : Int} {w : Cp} (h : w ∈ Bn p e i) : (⟨i, w.pos⟩ : Cp) ∈ Bn p e w.out := by
 obtain ⟨f1, f2, f3, f4, f5, _⟩ := Jf h
 have hh : Cj p ⟨e, i⟩ = true := by simp [Cj, f3, f4]
 have hh2 : Cj p ⟨e, w.out⟩ = true := by simp [Cj, f1, f2]
 unfold Bn at h ⊢
 rw [hh] at h
 rw [hh2]
 simp only [if_true] at h ⊢
 by_cases k1 : AY p e = 1
 .rw [if_pos k1] at h ⊢
  simp at h
  subst h
  simp; omega
 rw [if_neg k1] at h ⊢
 by_cases k3 : AY p e = 3
 .rw [if_pos k3] at h ⊢
  rw [k3] at f4
  simp [Bx] at f4
  simp at h
  subst h
  have : i = 0 \/ i = 1 \/ i = 2 \/ i = 3 := by omega
  rcases this with rfl | rfl | rfl | rfl <;> simp
 rw [if_neg k3] at h ⊢
 by_cases k2 : AY p e = 2
 .rw [if_pos k2] at h ⊢
  rw [k2] at f4
  simp [Bx] at f4
  by_cases i0 : i = 0
  .subst i0
   simp at h
   rcases h with rfl | rfl <;> simp
  rw [if_neg i0] at h
  simp at h
  subst h
  have : i = 1 \/ i = 2 := by omega
  rcases this with rfl | rfl <;> simp
 rw [if_neg k2] at h; simp at h
theorem Nm {e i x o : Int} (h : BC p e i x = some o) : BC p e o x = some i := by
 obtain ⟨w, hw, rfl, hx⟩ := Nh h
 have := V3 hw
 exact J1 this hx
end
end Go.E
/- Plain Lean: what the sides of a road reach: the document's answer and the program's are one (law SideReaches). No condition. -/
namespace Go.E
open Go
theorem Uz (l : List AE) (hl : l.length < 1000000) (x : AE) : Fs l x = some (decide (x ∈ l)) := by
 unfold Fs
 obtain ⟨b, h1, h2⟩ := Bh (l := l) (step := DN l x) (Post := fun b => b = decide (x ∈ l)) (fun _ y => y ≠ x) (fun good => ⟨false, by simp [DN], by
   symm; rw [decide_eq_false_iff_not]; intro hm
   obtain ⟨i, hi⟩ := List.getElem?_of_mem hm
   exact good i x hi rfl⟩) (fun i a ha _ => by
   have := Ba ha
   by_cases e : a = x
   .exact .inl ⟨true, by simp only [DN, Be ha, cond_true, Ah, ha, Option.bind_some, e, beq_self_eq_true], by symm; rw [decide_eq_true_iff]; subst e; exact List.mem_of_getElem? ha⟩
   have : (a == x) = false := beq_eq_false_iff_ne.2 e
   exact .inr ⟨by simp only [DN, Be ha, cond_true, Ah, ha, Option.bind_some, this, cond_false, AT (show i < 1000000000 by omega)], e⟩)
 rw [h1, h2]
section
variable {p : AH} {n : CF} {pos : List Int} {shut : List Bool} {r : AO}
theorem RS (p : AH) (e i x : Int) : Gg p e i x = some ((BC p e i x).getD 0, (BC p e i x).isSome) := by
 unfold Gg BC
 rw [Pk]
 simp only [Option.bind_some]
 have hl := Kz p e i
 refine Jc (γ := Unit) (Bn p e i) (fun k _ => (k : Int)) (fun _ _ r => some ((CM r x).getD 0, (CM r x).isSome)) (fun _ => ?_) (fun k _ a r ha hi => ?_) ()
 .simp [GB, CM]
 simp only [GB, Ah, ha, Option.bind_some, Be ha, cond_true, CM, DY]
 by_cases h1 : a.pos = 0
 .left; simp [h1]
 by_cases h2 : a.pos = x
 .left
  simp [h1, h2]
 right
 have : (a.pos == x) = false := beq_eq_false_iff_ne.2 h2
 exact ⟨(), by simp [h1, this, AT (show k < 1000000000 by omega)], by simp [h1, h2]⟩
theorem Mt {e f x o : Int} (h : BC p e f x = some o) : 0 <= o /\ o < Bx (AY p e) := by
 obtain ⟨w, hw, rfl, _⟩ := Nh h
 have := Jf hw
 exact ⟨this.1, this.2.1⟩
theorem U0 (p : AH) (e f x : Int) : Ja p e f x = some ((BC p e f x).getD 0, (BC p e f x).isSome) := by
 unfold Ja
 have he := X8 (AY p e)
 obtain ⟨b, h1, rfl⟩ := D0 (step := IG p e f x) (Post := fun b => b = ((BC p e f x).getD 0, (BC p e f x).isSome)) (fun k i => i = (k : Int) /\ (k : Int) <= Bx (AY p e) /\ ∀ o, BC p e f x = some o -> (k : Int) <= o) 5 (s := (0 : Int)) (by
  rintro k i ⟨rfl, h2, h3⟩
  simp only [IG, Da, IM, Option.bind_some]
  by_cases d : (k : Int) < Bx (AY p e)
  .rw [decide_eq_true d]
   simp only [cond_true, RS, Option.bind_some]
   by_cases c : BC p e (k : Int) x = some f
   .left
    refine ⟨_, ?_, rfl⟩
    rw [c, Nm c]
    simp
   right
   refine ⟨by omega, ((k + 1 : Nat) : Int), ?_, rfl, by omega, fun o ho => ?_⟩
   .have w := AT (show k < 1000000000 by omega)
    cases ht : BC p e (k : Int) x with
    | none => simp only [Option.isSome_none, cond_false, Option.bind_some, w]
    | some v =>
     have hne : (v == f) = false := beq_eq_false_iff_ne.2 (fun hv => c (by rw [ht, hv]))
     simp only [Option.isSome_some, Option.getD_some, cond_true, Option.bind_some, hne, cond_false, w]
   have := h3 o ho
   have hne : (k : Int) ≠ o := fun hk => c (by rw [hk]; exact Nm ho)
   omega
  left
  refine ⟨_, ?_, rfl⟩
  rw [decide_eq_false d]
  cases ht : BC p e f x with
  | none => rfl
  | some o =>
   have := h3 o ht
   have := Mt ht
   omega) ⟨rfl, by omega, fun o ho => (Mt ho).1⟩
 exact h1
end
end Go.E
/- The example that the laws of flanks AF at, reckoned by the kernel. No condition. -/
namespace Go.E
open Go Go.Proofs
set_option maxRecDepth 100000
end Go.E
/- The example that the laws of proofs AF at, reckoned by the kernel. No condition. -/
namespace Go.E
open Go Go.Proofs
set_option maxRecDepth 100000
end Go.E
/- Plain Lean: the flank of a road: how its search begins; a road without side ports (law FlankNone). No condition. -/
namespace Go.E
open Go
theorem IS (l : List Int) (hl : l.length < 1000000) (x : Int) : BV l x = some (decide (x ∈ l)) := by
 unfold BV DW
 obtain ⟨t, h1, h2⟩ := MX (l := l) (f := fun a => x == a) hl (step := Cx l x) (by simp [Cx]) (fun i a ha => by
  have := Ba ha
  simp only [Cx, Be ha, cond_true, Ah, ha, Option.bind_some, AT (show i < 1000000000 by omega)]
  cases hb : (x == a) <;> simp)
 rw [h1]
 simp only [Option.bind_some, Option.some.injEq]
 rcases h2 with ⟨rfl, h2⟩ | ⟨a, h0, h2, _⟩
 .have : x ∉ l := fun h => by have := List.find?_eq_none.1 h2 x h; simp at this
  simp [this]
 have hm := List.mem_of_find?_eq_some h2
 have he := List.find?_some h2
 simp only [beq_iff_eq] at he
 subst he
 simp [h0, hm]
theorem Mu (l : List AM) (hl : l.length < 1000000) (x : AM) : CV l x = some (decide (x ∈ l)) := by
 unfold CV HI
 obtain ⟨t, h1, h2⟩ := MX (l := l) (f := fun a => x == a) hl (step := C1 l x) (by simp [C1]) (fun i a ha => by
  have := Ba ha
  simp only [C1, Be ha, cond_true, Ah, ha, Option.bind_some, AT (show i < 1000000000 by omega)]
  cases hb : (x == a) <;> simp)
 rw [h1]
 simp only [Option.bind_some, Option.some.injEq]
 rcases h2 with ⟨rfl, h2⟩ | ⟨a, h0, h2, _⟩
 .have : x ∉ l := fun h => by have := List.find?_eq_none.1 h2 x h; simp at this
  simp [this]
 have hm := List.mem_of_find?_eq_some h2
 have he := List.find?_some h2
 simp only [beq_iff_eq] at he
 subst he
 simp [h0, hm]
section
variable {p : AH} {n : CF} {r : AO}
theorem LO (hv : B8 p) (hn : Ck p n) (h1 : r.steps.length <= 12) (h2 : r.needs.length <= 1000) : FR n r = AQ (Bs n r r.steps r.needs p) (false, [], [], [], [], (Db p (DI p r.steps)).reverse) := by
 unfold FR
 have e1 : HG r.steps = some r.steps := D6 _ (by omega)
 have e2 : BM r.needs = some r.needs := D6 _ (by omega)
 have e3 : Ir n = some p := by unfold Ir; rw [hn.plan, T5 p hv.few]; rfl
 simp only [e1, e2, e3, Option.bind_some, XA hn (⟨r.frm, r.to, r.fin, r.steps, r.needs, [], [], [], false⟩ : AO) (show r.steps.length <= 1000 by omega)]
 have hp := J3 (p := p) r.steps
 generalize hL : DI p r.steps = L at hp
 have key : ∀ (k : Nat) (q : List AE), k <= L.length -> q = (Db p (L.drop k)).reverse -> AQ (Fq n r r.steps r.needs p L) ((k : Int) - 1, q) = AQ (Bs n r r.steps r.needs p) (false, [], [], [], [], (Db p L).reverse) := by
  intro k
  induction k with
  | zero =>
   intro q _ hq
   rw [List.drop_zero] at hq
   subst hq
   cases hr : AQ (Bs n r r.steps r.needs p) (false, [], [], [], [], (Db p L).reverse) with
   | some b =>
    refine DZ ?_
    have d : decide ((0 : Int) <= ((0 : Nat) : Int) - 1) = false := by decide
    simp only [Fq, d, cond_false, hr, Option.map_some]
   | none =>
    rw [GP]
    have d : decide ((0 : Int) <= ((0 : Nat) : Int) - 1) = false := by decide
    simp only [Fq, d, cond_false, hr, Option.map_none]
  | succ k ih =>
   intro q hk hq
   obtain ⟨x, hx⟩ : ∃ x, L[k]? = some x := ⟨_, List.getElem?_eq_getElem (by omega)⟩
   have hql : q.length <= 24 := by rw [hq]; unfold Db; simp; omega
   have hd : L.drop k = x :: L.drop (k + 1) := by
    obtain ⟨h, e⟩ := List.getElem?_eq_some_iff.1 hx
    rw [List.drop_eq_getElem_cons h, e]
   rw [<- ih (q ++ [(Ap p x).getD ⟨0, 0⟩]) (by omega) (by rw [hd, hq]; unfold Db; simp)]
   refine CU ?_
   have d : decide ((0 : Int) <= (k : Int)) = true := decide_eq_true (by omega)
   have e : (((k + 1 : Nat) : Int) - 1) = (k : Int) := by omega
   have w : AZ ((k : Int) - 1) = (k : Int) - 1 := by rw [CR] <;> omega
   simp only [Fq, d, cond_true, e, Ah, hx, Option.bind_some, Ot hn, BP (show q.length + [(Ap p x).getD (⟨0, 0⟩ : AE)].length <= 4294967296 by simp; omega), w]
 have w : AZ ((L.length : Int) - 1) = (L.length : Int) - 1 := by rw [CR] <;> omega
 rw [w]
 exact key L.length [] (Nat.le_refl _) (by simp [Db])
end
end Go.E
/- Plain Lean: the flank of a road: one round of its search; what holds behind it. No condition. -/
namespace Go.E
open Go
section
variable {p : AH} {n : CF} {r : AO}
def BA (b : Bool) (z : List Int) (e : Int) : Bool × Bool × List Int := if e ∈ z then (true, b, z) else if 12 <= z.length then (false, true, z) else (true, b, z ++ [e])
def Dd (p : AH) (l : List AE) (x : AE) : List AE := match Ap p x with
 | some y => l ++ [y]
 | none => l
abbrev FS := Bool × List (AE × Bool) × List AM × List Int × List Int × List AE
def JH (p : AH) (st : List Ao) (nd : List AM) (b : Bool) (vis : List (AE × Bool)) (g : List AM) (z h : List Int) (l : List AE) (x : AE) : FS :=
 if x.elem ∈ st.map (·.elem) \/ BR vis x = true then (b, vis, g, z, h, l)
 else if 0 <= A0 p x /\ p.hard = false then (b, Ay x true vis, g, z, if A0 p x ∈ h then h else h ++ [A0 p x], l)
 else if AY p x.elem = 4 then (true, Ay x true vis, g, z, h, l)
 else if AY p x.elem = 2 then
  if x.fin = 0 then ((BA b z x.elem).2.1, Ay x true vis, g, (BA b z x.elem).2.2, h, if (BA b z x.elem).1 then Dd p (Dd p l ⟨x.elem, 2⟩) ⟨x.elem, 1⟩ else l)
  else if ⟨x.elem, x.fin⟩ ∈ nd \/ ⟨x.elem, x.fin⟩ ∈ g then ((BA b z x.elem).2.1, Ay x true vis, g, (BA b z x.elem).2.2, h, if (BA b z x.elem).1 then Dd p l ⟨x.elem, 0⟩ else l)
  else (b, Ay x true vis, if ⟨x.elem, AZ (3 - x.fin)⟩ ∈ g then g else g ++ [⟨x.elem, AZ (3 - x.fin)⟩], z, h, l)
 else match BC p x.elem x.fin 0 with
  | none => (b, Ay x true vis, g, z, h, l)
  | some o => ((BA b z x.elem).2.1, Ay x true vis, g, (BA b z x.elem).2.2, h, if (BA b z x.elem).1 then Dd p l ⟨x.elem, o⟩ else l)
theorem XB (b : Bool) (z : List Int) (e : Int) (hz : z.length <= 1000) : ((BV z e).bind fun y => bif y then some (true, b, z) else bif decide (12 <= (z.length : Int)) then some (false, true, z) else (BO z [e]).bind fun y' => some (true, b, y') : Option (Bool × Bool × List Int)) = some (BA b z e) := by
 rw [IS z (by omega)]
 unfold BA
 simp only [Option.bind_some]
 by_cases c : e ∈ z
 .rw [decide_eq_true c, if_pos c]; rfl
 rw [decide_eq_false c, if_neg c]
 by_cases d : 12 <= z.length
 .rw [if_pos d, decide_eq_true (show (12 : Int) <= (z.length : Int) by omega)]; rfl
 rw [if_neg d, decide_eq_false (show ¬ (12 : Int) <= (z.length : Int) by omega)]
 simp only [cond_false, BP (show z.length + [e].length <= 4294967296 by simp; omega), Option.bind_some]
theorem Mc (hn : Ck p n) (l : List AE) (x : AE) (hl : l.length <= 1000000) : ((Ch n x).bind fun y => bif y.2 then (BO l [y.1]).bind fun y' => some y' else some l : Option (List AE)) = some (Dd p l x) := by
 rw [Ot hn]
 unfold Dd
 cases Ap p x with
 | none => rfl
 | some y => simp only [Option.bind_some, Option.isSome_some, Option.getD_some, cond_true, BP (show l.length + [y].length <= 4294967296 by simp; omega)]
theorem Nn (l : List AE) (x : AE) : (Dd p l x).length <= l.length + 1 := by unfold Dd; split <;> simp
theorem Md (hn : Ck p n) (h1 : r.steps.length <= 12) (h2 : r.needs.length <= 1000) (b : Bool) (vis : List (AE × Bool)) (g : List AM) (z h : List Int) (l : List AE) (x : AE) (hg : g.length <= 1000) (hz : z.length <= 1000) (hh : h.length <= 1000) (hl : l.length <= 1000) :
  Bs n r r.steps r.needs p (b, vis, g, z, h, l ++ [x]) = some (.inl (JH p r.steps r.needs b vis g z h l x)) := by
 have d : decide ((0 : Int) < (((l ++ [x]).length : Nat) : Int)) = true := by simp
 have w := X4 l x (by omega)
 have i1 := Ys x (rfl : l.length = l.length)
 have s1 := Yt x (rfl : l.length = l.length)
 have own := Yu (⟨r.frm, r.to, r.fin, r.steps, r.needs, g, z, h, b⟩ : AO) (show r.steps.length < 1000000 by omega) x.elem
 have tz := XB b z x.elem hz
 have vb : (AW vis x).getD false = BR vis x := rfl
 unfold Bs JH
 simp only [d, cond_true, w, i1, s1, own, Option.bind_some, vb]
 by_cases c : x.elem ∈ r.steps.map (·.elem) \/ BR vis x = true
 .rw [if_pos c]
  rcases c with c | c
  .rw [decide_eq_true c]; rfl
  rw [c]; cases decide (x.elem ∈ r.steps.map (·.elem)) <;> rfl
 rw [if_neg c]
 have c1 : x.elem ∉ r.steps.map (·.elem) := fun h => c (.inl h)
 have c2 : BR vis x = false := by cases hs : BR vis x with | false => rfl | true => exact absurd (.inr hs) c
 rw [decide_eq_false c1, c2]
 simp only [cond_false, Option.bind_some, Vu hn]
 by_cases k1 : 0 <= A0 p x /\ p.hard = false
 .rw [if_pos k1, decide_eq_true k1.1, k1.2]
  simp only [cond_true, Bool.not_false, Option.bind_some, IS h (show h.length < 1000000 by omega)]
  by_cases m : A0 p x ∈ h
  .rw [decide_eq_true m, if_pos m]; rfl
  rw [decide_eq_false m, if_neg m]
  simp only [Bool.not_false, cond_true, BP (show h.length + [A0 p x].length <= 4294967296 by simp; omega), Option.bind_some]
 rw [if_neg k1]
 have eb : (bif decide (0 <= A0 p x) then some (!p.hard) else some false : Option Bool) = some false := by
  by_cases a : 0 <= A0 p x
  .rw [decide_eq_true a]
   cases hp : p.hard with
   | true => rfl
   | false => exact absurd ⟨a, hp⟩ k1
  rw [decide_eq_false a]; rfl
 simp only [eb, Option.bind_some, cond_false, Oq hn]
 by_cases k4 : AY p x.elem = 4
 .rw [if_pos k4, k4]; rfl
 rw [if_neg k4]
 have b4 : (AY p x.elem == 4) = false := beq_eq_false_iff_ne.2 k4
 simp only [b4, cond_false]
 by_cases k2 : AY p x.elem = 2
 .rw [if_pos k2, k2]
  simp only [beq_self_eq_true, cond_true]
  by_cases f0 : x.fin = 0
  .rw [if_pos f0]
   have bf : (x.fin == 0) = true := by simp [f0]
   simp only [bf, cond_true, tz, Option.bind_some]
   have q1 := Nn (p := p) l ⟨x.elem, 2⟩
   cases ht : (BA b z x.elem).1 with
   | true => simp only [cond_true, Mc hn l ⟨x.elem, 2⟩ (by omega), Option.bind_some, Mc hn (Dd p l ⟨x.elem, 2⟩) ⟨x.elem, 1⟩ (by omega), if_true]
   | false => simp only [cond_false, Option.bind_some, Bool.false_eq_true, if_false]
  rw [if_neg f0]
  have bf : (x.fin == 0) = false := beq_eq_false_iff_ne.2 f0
  simp only [bf, cond_false, Mu r.needs (show r.needs.length < 1000000 by omega), Mu g (show g.length < 1000000 by omega), Option.bind_some]
  have en : (bif decide ((⟨x.elem, x.fin⟩ : AM) ∈ r.needs) then some true else some (decide ((⟨x.elem, x.fin⟩ : AM) ∈ g)) : Option Bool) = some (decide ((⟨x.elem, x.fin⟩ : AM) ∈ r.needs \/ (⟨x.elem, x.fin⟩ : AM) ∈ g)) := by
   by_cases a : (⟨x.elem, x.fin⟩ : AM) ∈ r.needs
   .simp [a]
   simp [a]
  simp only [en, Option.bind_some]
  by_cases a : (⟨x.elem, x.fin⟩ : AM) ∈ r.needs \/ (⟨x.elem, x.fin⟩ : AM) ∈ g
  .rw [if_pos a, decide_eq_true a]
   simp only [cond_true, tz, Option.bind_some]
   cases ht : (BA b z x.elem).1 with
   | true => simp only [cond_true, Mc hn l ⟨x.elem, 0⟩ (by omega), Option.bind_some, if_true]
   | false => simp only [cond_false, Option.bind_some, Bool.false_eq_true, if_false]
  rw [if_neg a, decide_eq_false a]
  simp only [cond_false]
  by_cases m : (⟨x.elem, AZ (3 - x.fin)⟩ : AM) ∈ g
  .rw [decide_eq_true m, if_pos m]; rfl
  rw [decide_eq_false m, if_neg m]
  simp only [Bool.not_false, cond_true, BP (show g.length + [(⟨x.elem, AZ (3 - x.fin)⟩ : AM)].length <= 4294967296 by simp; omega), Option.bind_some]
 rw [if_neg k2]
 have b2 : (AY p x.elem == 2) = false := beq_eq_false_iff_ne.2 k2
 simp only [b2, cond_false, Ln, TX hn, Option.bind_some]
 cases ht : BC p x.elem x.fin 0 with
 | none => rfl
 | some o =>
  simp only [Option.isSome_some, cond_true, Option.getD_some, tz, Option.bind_some]
  cases htz : (BA b z x.elem).1 with
  | true => simp only [cond_true, Mc hn l ⟨x.elem, o⟩ (by omega), Option.bind_some, if_true]
  | false => simp only [cond_false, Bool.false_eq_true, if_false]
end
end Go.E
/- Plain Lean: the flank of a road: what holds of zone, guards and holds; the search ends (laws FlankAgain, FlankApart). No condition. -/
namespace Go.E
open Go
section
variable {p : AH} {n : CF} {r : AO}
structure T7 (p : AH) (st : List Ao) (z : List Int) : Prop where
 len : z.length <= 12
 nd : z.Nodup
 own : ∀ e ∈ z, e ∉ st.map (·.elem) /\ AY p e ≠ 4
 rng : ∀ e ∈ z, AY p e ≠ 0
structure V4 (p : AH) (st : List Ao) (g : List AM) : Prop where
 ok : ∀ m ∈ g, m.elem ∉ st.map (·.elem) /\ AY p m.elem = 2 /\ (m.pos = 1 \/ m.pos = 2)
 nd : g.Pairwise (fun a b => a.elem ≠ b.elem)
theorem XC {st : List Ao} {b : Bool} {z : List Int} {e : Int} (h : T7 p st z) (h1 : e ∉ st.map (·.elem)) (h2 : AY p e ≠ 4) (h3 : AY p e ≠ 0) : T7 p st (BA b z e).2.2 := by
 unfold BA
 split
 .exact h
 rename_i hm
 split
 .exact h
 rename_i hl
 refine ⟨by simp; omega, ?_, fun a ha => ?_, fun a ha => ?_⟩
 .simp only
  rw [List.nodup_append]
  exact ⟨h.nd, by simp, fun a ha c hc => by simp at hc; subst hc; intro e; subst e; exact hm ha⟩
 .rcases List.mem_append.1 ha with ha | ha
  .exact h.own a ha
  simp at ha; subst ha; exact ⟨h1, h2⟩
 rcases List.mem_append.1 ha with ha | ha
 .exact h.rng a ha
 simp at ha; subst ha; exact h3
theorem Gi {x y : AE} (h : Ap p x = some y) : y ∈ B4 p := Nj h
theorem K2 {l : List AE} {x y : AE} (h : y ∈ Dd p l x) : y ∈ l \/ y ∈ B4 p := by
 unfold Dd at h
 cases hx : Ap p x with
 | none => rw [hx] at h; exact .inl h
 | some z =>
  rw [hx] at h
  rcases List.mem_append.1 h with h | h
  .exact .inl h
  simp at h; subst h; exact .inr (Gi hx)
structure FI (p : AH) (st : List Ao) (M k : Nat) (vis : List (AE × Bool)) (g : List AM) (z h : List Int) (l : List AE) : Prop where
 zok : T7 p st z
 gok : V4 p st g
 hold : p.hard = true -> h = []
 port : ∀ x ∈ l, x ∈ B4 p
 lg : g.length <= k
 lh : h.length <= k
 meas : k + l.length + 3 * GC p vis <= M
theorem QV (hv : B8 p) {st : List Ao} {nd : List AM} {M k : Nat} {b : Bool} {vis : List (AE × Bool)} {g : List AM} {z h : List Int} {l : List AE} {x : AE} (hi : FI p st M k vis g z h (l ++ [x])) {s : FS} (hs : s = JH p st nd b vis g z h l x) :
  FI p st M (k + 1) s.2.1 s.2.2.1 s.2.2.2.1 s.2.2.2.2.1 s.2.2.2.2.2 := by
 have hm := hi.meas
 simp only [List.length_append, List.length_cons, List.length_nil] at hm
 have hx : x ∈ B4 p := hi.port x (by simp)
 have hl : ∀ y ∈ l, y ∈ B4 p := fun y hy => hi.port y (by simp [hy])
 have hlg := hi.lg
 have hlh := hi.lh
 have hul := V2 (p := p) (vis := vis) x
 have hhas : Cj p x = true := by
  obtain ⟨i, hi⟩ := List.mem_iff_getElem?.1 hx
  exact hv.join.has i x hi
 unfold JH at hs
 by_cases c : x.elem ∈ st.map (·.elem) \/ BR vis x = true
 .rw [if_pos c] at hs
  subst hs
  exact ⟨hi.zok, hi.gok, hi.hold, hl, by dsimp only; omega, by dsimp only; omega, by dsimp only; omega⟩
 rw [if_neg c] at hs
 have c1 : x.elem ∉ st.map (·.elem) := fun h => c (.inl h)
 have c2 : BR vis x = false := by cases hs : BR vis x with | false => rfl | true => exact absurd (.inr hs) c
 have hlt := Sx hx c2
 by_cases k1 : 0 <= A0 p x /\ p.hard = false
 .rw [if_pos k1] at hs
  subst hs
  refine ⟨hi.zok, hi.gok, fun hh => (by rw [k1.2] at hh; cases hh), hl, by dsimp only; omega, ?_, by dsimp only; omega⟩
  dsimp only
  split
  .omega
  simp; omega
 rw [if_neg k1] at hs
 by_cases k4 : AY p x.elem = 4
 .rw [if_pos k4] at hs
  subst hs
  exact ⟨hi.zok, hi.gok, hi.hold, hl, by dsimp only; omega, by dsimp only; omega, by dsimp only; omega⟩
 rw [if_neg k4] at hs
 have k0 : AY p x.elem ≠ 0 := fun e => by
  obtain ⟨f1, f2, f3⟩ := Dh hhas
  rw [e] at f3
  simp [Bx] at f3
  omega
 have hz := XC (b := b) hi.zok c1 k4 k0
 have p1 : ∀ y, (Dd p l y).length <= l.length + 1 := fun y => Nn l y
 by_cases k2 : AY p x.elem = 2
 .rw [if_pos k2] at hs
  by_cases f0 : x.fin = 0
  .rw [if_pos f0] at hs
   subst hs
   refine ⟨hz, hi.gok, hi.hold, fun y hy => ?_, by dsimp only; omega, by dsimp only; omega, ?_⟩
   .dsimp only at hy
    split at hy
    .rcases K2 hy with hy | hy
     .rcases K2 hy with hy | hy
      .exact hl y hy
      exact hy
     exact hy
    exact hl y hy
   dsimp only
   have q1 := p1 ⟨x.elem, 2⟩
   have q2 := Nn (p := p) (Dd p l ⟨x.elem, 2⟩) ⟨x.elem, 1⟩
   split <;> omega
  rw [if_neg f0] at hs
  by_cases a : (⟨x.elem, x.fin⟩ : AM) ∈ nd \/ (⟨x.elem, x.fin⟩ : AM) ∈ g
  .rw [if_pos a] at hs
   subst hs
   refine ⟨hz, hi.gok, hi.hold, fun y hy => ?_, by dsimp only; omega, by dsimp only; omega, ?_⟩
   .dsimp only at hy
    split at hy
    .rcases K2 hy with hy | hy
     .exact hl y hy
     exact hy
    exact hl y hy
   dsimp only
   have q1 := p1 ⟨x.elem, 0⟩
   split <;> omega
  rw [if_neg a] at hs
  subst hs
  obtain ⟨f1, f2, f3⟩ := Dh hhas
  rw [k2] at f3
  simp [Bx] at f3
  have hw : AZ (3 - x.fin) = 3 - x.fin := by rw [CR] <;> omega
  refine ⟨hi.zok, ?_, hi.hold, hl, ?_, by dsimp only; omega, by dsimp only; omega⟩
  .dsimp only
   split
   .exact hi.gok
   rename_i hng
   refine ⟨fun m hm => ?_, ?_⟩
   .rcases List.mem_append.1 hm with hm | hm
    .exact hi.gok.ok m hm
    simp at hm; subst hm; exact ⟨c1, k2, by rw [hw]; simp only; omega⟩
   rw [List.pairwise_append]
   refine ⟨hi.gok.nd, by simp, fun m hm q hq => ?_⟩
   simp at hq
   subst hq
   intro he
   simp only at he
   obtain ⟨_, _, hp⟩ := hi.gok.ok m hm
   have e1 : m = ⟨x.elem, m.pos⟩ := by cases m; simp only at he; subst he; rfl
   by_cases e : m.pos = x.fin
   .rw [e] at e1; rw [e1] at hm; exact a (.inr hm)
   have : m.pos = 3 - x.fin := by omega
   rw [this, <- hw] at e1; rw [e1] at hm; exact hng hm
  dsimp only
  split
  .omega
  simp; omega
 rw [if_neg k2] at hs
 cases ht : BC p x.elem x.fin 0 with
 | none =>
  rw [ht] at hs
  subst hs
  exact ⟨hi.zok, hi.gok, hi.hold, hl, by dsimp only; omega, by dsimp only; omega, by dsimp only; omega⟩
 | some o =>
  rw [ht] at hs
  subst hs
  refine ⟨hz, hi.gok, hi.hold, fun y hy => ?_, by dsimp only; omega, by dsimp only; omega, ?_⟩
  .dsimp only at hy
   split at hy
   .rcases K2 hy with hy | hy
    .exact hl y hy
    exact hy
   exact hl y hy
  dsimp only
  have q1 := p1 ⟨x.elem, o⟩
  split <;> omega
end
end Go.E
/- Plain Lean: zone, guards and holds of a road's flank (law FlankApart). No condition. -/
namespace Go.E
open Go
section
variable {p : AH} {n : CF} {r : AO}
end
end Go.E
/- Plain Lean: one call of the document's search for the flank, in a clean form. No condition. -/
namespace Go.E
open Go
theorem Pr (l : List AM) (hl : l.length < 1000000) (x : AM) : Dg l x = some (decide (x ∈ l)) := by
 unfold Dg
 obtain ⟨b, h1, h2⟩ := Bh (l := l) (step := DO l x) (Post := fun b => b = decide (x ∈ l)) (fun _ y => y ≠ x) (fun good => ⟨false, by simp [DO], by
   symm; rw [decide_eq_false_iff_not]; intro hm
   obtain ⟨i, hi⟩ := List.getElem?_of_mem hm
   exact good i x hi rfl⟩) (fun i a ha _ => by
   have := Ba ha
   by_cases e : a = x
   .exact .inl ⟨true, by simp only [DO, Be ha, cond_true, Ah, ha, Option.bind_some, e, beq_self_eq_true], by symm; rw [decide_eq_true_iff]; subst e; exact List.mem_of_getElem? ha⟩
   have : (a == x) = false := beq_eq_false_iff_ne.2 e
   exact .inr ⟨by simp only [DO, Be ha, cond_true, Ah, ha, Option.bind_some, this, cond_false, AT (show i < 1000000000 by omega)], e⟩)
 rw [h1, h2]
section
variable {p : AH} {n : CF} {r : AO}
def Ea (p : AH) (r : AO) (g : List AM) (z h : List Int) (b : Bool) (met : List AE) : Ab := ⟨p, ⟨r.frm, r.to, r.fin, r.steps, r.needs, g, z, h, b⟩, met⟩
def Ps (p : AH) (rc : Ab × AE -> Option Ab) (S : Ab) (y : AE) : Option Ab := match Ap p y with
 | some q => rc (S, q)
 | none => some S
theorem V5 (b : Bool) (z : List Int) (e : Int) (hz : z.length <= 1000) : ((DM z e).bind fun y => bif y then some (true, b, z) else bif decide (12 <= (z.length : Int)) then some (false, true, z) else (BO z [e]).bind fun y' => some (true, b, y') : Option (Bool × Bool × List Int)) = some (BA b z e) := by
 rw [Pn z (by omega)]
 unfold BA
 simp only [Option.bind_some]
 by_cases c : e ∈ z
 .rw [decide_eq_true c, if_pos c]; rfl
 rw [decide_eq_false c, if_neg c]
 by_cases d : 12 <= z.length
 .rw [if_pos d, decide_eq_true (show (12 : Int) <= (z.length : Int) by omega)]; rfl
 rw [if_neg d, decide_eq_false (show ¬ (12 : Int) <= (z.length : Int) by omega)]
 simp only [cond_false, BP (show z.length + [e].length <= 4294967296 by simp; omega), Option.bind_some]
def Rn (p : AH) (r : AO) (rc : Ab × AE -> Option Ab) (g : List AM) (z h : List Int) (b : Bool) (met : List AE) (x : AE) : Option Ab :=
 if x.elem ∈ r.steps.map (·.elem) \/ x ∈ met then some (Ea p r g z h b met)
 else if 0 <= A0 p x /\ p.hard = false then some (Ea p r g z (if A0 p x ∈ h then h else h ++ [A0 p x]) b (met ++ [x]))
 else if AY p x.elem = 4 then some (Ea p r g z h true (met ++ [x]))
 else if AY p x.elem = 2 then
  if x.fin = 0 then
   if (BA b z x.elem).1 then (Ps p rc (Ea p r g (BA b z x.elem).2.2 h (BA b z x.elem).2.1 (met ++ [x])) ⟨x.elem, 1⟩).bind fun S => Ps p rc S ⟨x.elem, 2⟩
   else some (Ea p r g (BA b z x.elem).2.2 h (BA b z x.elem).2.1 (met ++ [x]))
  else if ⟨x.elem, x.fin⟩ ∈ r.needs \/ ⟨x.elem, x.fin⟩ ∈ g then
   if (BA b z x.elem).1 then Ps p rc (Ea p r g (BA b z x.elem).2.2 h (BA b z x.elem).2.1 (met ++ [x])) ⟨x.elem, 0⟩
   else some (Ea p r g (BA b z x.elem).2.2 h (BA b z x.elem).2.1 (met ++ [x]))
  else some (Ea p r (if ⟨x.elem, AZ (3 - x.fin)⟩ ∈ g then g else g ++ [⟨x.elem, AZ (3 - x.fin)⟩]) z h b (met ++ [x]))
 else if (BA b z x.elem).1 then Ps p rc (Ea p r g (BA b z x.elem).2.2 h (BA b z x.elem).2.1 (met ++ [x])) ⟨x.elem, (BC p x.elem x.fin 0).getD 0⟩
 else some (Ea p r g (BA b z x.elem).2.2 h (BA b z x.elem).2.1 (met ++ [x]))
theorem V6 (hv : B8 p) (h1 : r.steps.length <= 12) (h2 : r.needs.length <= 1000) (rc : Ab × AE -> Option Ab) (g : List AM) (z h : List Int) (b : Bool) (met : List AE) (x : AE) (hrc : ¬ (x.elem ∈ r.steps.map (·.elem) \/ x ∈ met) -> ∀ q S', Ap p ⟨x.elem, 1⟩ = some q -> rc (Ea p r g (BA b z x.elem).2.2 h (BA b z x.elem).2.1 (met ++ [x]), q) = some S' -> S'.p = p) (hg : g.length <= 1000) (hz : z.length <= 1000) (hh : h.length <= 1000) (hm : met.length <= 1000) :
  CG rc (Ea p r g z h b met) x = Rn p r rc g z h b met x := by
 have hj := hv.nj
 have hns := hv.ns
 have own := X7 (⟨r.frm, r.to, r.fin, r.steps, r.needs, g, z, h, b⟩ : AO) (show r.steps.length < 1000000 by omega) x.elem
 have tz := V5 b z x.elem hz
 have hmet := BP (l := met) (m := [x]) (by simp; omega)
 unfold CG Rn Ea
 simp only [own, Uz met (show met.length < 1000000 by omega), Option.bind_some]
 have e1 : (bif decide (x.elem ∈ r.steps.map (·.elem)) then some true else some (decide (x ∈ met)) : Option Bool) = some (decide (x.elem ∈ r.steps.map (·.elem) \/ x ∈ met)) := by
  by_cases a : x.elem ∈ r.steps.map (·.elem)
  .rw [decide_eq_true a]; simp [a]
  rw [decide_eq_false a]; simp [a]
 simp only [e1, Option.bind_some]
 by_cases c : x.elem ∈ r.steps.map (·.elem) \/ x ∈ met
 .rw [if_pos c, decide_eq_true c]; rfl
 rw [if_neg c, decide_eq_false c]
 simp only [cond_false, hmet, Option.bind_some, HY p (show p.signals.length < 1000000 by omega)]
 by_cases k1 : 0 <= A0 p x /\ p.hard = false
 .rw [if_pos k1, decide_eq_true k1.1, k1.2]
  simp only [cond_true, Bool.not_false, Option.bind_some, Pn h (show h.length < 1000000 by omega)]
  by_cases m : A0 p x ∈ h
  .rw [decide_eq_true m, if_pos m]; rfl
  rw [decide_eq_false m, if_neg m]
  simp only [Bool.not_false, cond_true, BP (show h.length + [A0 p x].length <= 4294967296 by simp; omega), Option.bind_some]
 rw [if_neg k1]
 have eb : (bif decide (0 <= A0 p x) then some (!p.hard) else some false : Option Bool) = some false := by
  by_cases a : 0 <= A0 p x
  .rw [decide_eq_true a]
   cases hp : p.hard with
   | true => rfl
   | false => exact absurd ⟨a, hp⟩ k1
  rw [decide_eq_false a]; rfl
 simp only [eb, Option.bind_some, cond_false, Kb]
 by_cases k4 : AY p x.elem = 4
 .rw [if_pos k4, k4]; rfl
 rw [if_neg k4]
 have b4 : (AY p x.elem == 4) = false := beq_eq_false_iff_ne.2 k4
 simp only [b4, cond_false, tz, Option.bind_some, CL p (show p.joins.length < 1000000 by omega), U0]
 by_cases k2 : AY p x.elem = 2
 .rw [if_pos k2, k2]
  simp only [beq_self_eq_true, cond_true]
  by_cases f0 : x.fin = 0
  .rw [if_pos f0]
   have bf : (x.fin == 0) = true := by simp [f0]
   simp only [bf, cond_true, tz, Option.bind_some]
   cases ht : (BA b z x.elem).1 with
   | false => simp only [cond_false, Option.bind_some, Bool.false_eq_true, if_false]
   | true =>
    simp only [cond_true, if_true]
    unfold Ps
    cases hy : Ap p ⟨x.elem, 1⟩ with
    | none =>
     simp only [Option.isSome_none, cond_false, Option.bind_some, CL p (show p.joins.length < 1000000 by omega)]
     cases hy2 : Ap p ⟨x.elem, 2⟩ with
     | none => rfl
     | some q2 =>
      simp only [Option.isSome_some, cond_true, Option.getD_some]
      cases hr2 : rc (⟨p, ⟨r.frm, r.to, r.fin, r.steps, r.needs, g, (BA b z x.elem).2.2, h, (BA b z x.elem).2.1⟩, met ++ [x]⟩, q2) with
      | none => simp only [hr2, Option.bind_none]
      | some S => simp only [hr2, Option.bind_some]
    | some q =>
     simp only [Option.isSome_some, cond_true, Option.getD_some]
     cases hr : rc (⟨p, ⟨r.frm, r.to, r.fin, r.steps, r.needs, g, (BA b z x.elem).2.2, h, (BA b z x.elem).2.1⟩, met ++ [x]⟩, q) with
     | none => rfl
     | some S =>
      obtain ⟨Sp, Sr, Sm⟩ := S
      have hp := hrc c _ _ hy hr
      simp only at hp
      subst hp
      simp only [Option.bind_some, CL Sp (show Sp.joins.length < 1000000 by omega)]
      cases hy2 : Ap Sp ⟨x.elem, 2⟩ with
      | none => rfl
      | some q2 =>
       simp only [Option.isSome_some, cond_true, Option.getD_some, Option.bind_some]
       cases hr2 : rc (⟨Sp, Sr, Sm⟩, q2) with
       | none => simp only [hr2, Option.bind_none]
       | some S => simp only [hr2, Option.bind_some]
  rw [if_neg f0]
  have bf : (x.fin == 0) = false := beq_eq_false_iff_ne.2 f0
  simp only [bf, cond_false, Pr r.needs (show r.needs.length < 1000000 by omega), Pr g (show g.length < 1000000 by omega), Option.bind_some]
  have en : (bif !decide ((⟨x.elem, x.fin⟩ : AM) ∈ r.needs) then some (!decide ((⟨x.elem, x.fin⟩ : AM) ∈ g)) else some false : Option Bool) = some (decide (¬ ((⟨x.elem, x.fin⟩ : AM) ∈ r.needs \/ (⟨x.elem, x.fin⟩ : AM) ∈ g))) := by
   by_cases a : (⟨x.elem, x.fin⟩ : AM) ∈ r.needs
   .simp [a]
   by_cases a2 : (⟨x.elem, x.fin⟩ : AM) ∈ g <;> simp [a, a2]
  simp only [en, Option.bind_some]
  by_cases a : (⟨x.elem, x.fin⟩ : AM) ∈ r.needs \/ (⟨x.elem, x.fin⟩ : AM) ∈ g
  .rw [if_pos a, decide_eq_false (show ¬ ¬ _ from fun hn => hn a)]
   simp only [cond_false, tz, Option.bind_some]
   cases ht : (BA b z x.elem).1 with
   | false => simp only [cond_false, Option.bind_some, Bool.false_eq_true, if_false]
   | true =>
    simp only [cond_true, if_true]
    unfold Ps
    cases hy : Ap p ⟨x.elem, 0⟩ with
    | none => rfl
    | some q =>
     simp only [Option.isSome_some, cond_true, Option.getD_some]
     cases hr : rc (⟨p, ⟨r.frm, r.to, r.fin, r.steps, r.needs, g, (BA b z x.elem).2.2, h, (BA b z x.elem).2.1⟩, met ++ [x]⟩, q) with
     | none => rfl
     | some S => rfl
  rw [if_neg a, decide_eq_true a]
  simp only [cond_true]
  by_cases m : (⟨x.elem, AZ (3 - x.fin)⟩ : AM) ∈ g
  .rw [decide_eq_true m, if_pos m]; rfl
  rw [decide_eq_false m, if_neg m]
  simp only [Bool.not_false, cond_true, BP (show g.length + [(⟨x.elem, AZ (3 - x.fin)⟩ : AM)].length <= 4294967296 by simp; omega), Option.bind_some]
 rw [if_neg k2]
 have b2 : (AY p x.elem == 2) = false := beq_eq_false_iff_ne.2 k2
 simp only [b2, cond_false]
 cases ht : (BA b z x.elem).1 with
 | false => simp only [cond_false, Bool.false_eq_true, if_false]
 | true =>
  simp only [cond_true, if_true]
  unfold Ps
  cases hy : Ap p ⟨x.elem, (BC p x.elem x.fin 0).getD 0⟩ with
  | none => rfl
  | some q =>
   simp only [Option.isSome_some, cond_true, Option.getD_some]
   cases hr : rc (⟨p, ⟨r.frm, r.to, r.fin, r.steps, r.needs, g, (BA b z x.elem).2.2, h, (BA b z x.elem).2.1⟩, met ++ [x]⟩, q) with
   | none => rfl
   | some S => rfl
end
end Go.E
/- Plain Lean: the document's search for the flank and the program's loop: one call is as good as one port on the stack. No condition. -/
namespace Go.E
open Go
section
variable {p : AH} {n : CF} {r : AO}
noncomputable def Me (m : Nat) : Ab × AE -> Option Ab := NW (fun (rc : (Ab × AE) -> Option Ab) (a : (Ab × AE)) => CG rc a.1 a.2) m
structure CI (p : AH) (vis : List (AE × Bool)) (g : List AM) (z h : List Int) (met : List AE) : Prop where
 mt : ∀ y, y ∈ met ↔ BR vis y = true
 lz : z.length <= 12
 lg : g.length + GC p vis <= 500
 lh : h.length + GC p vis <= 500
 lm : met.length + GC p vis <= 500
theorem Q7 {b : Bool} {z : List Int} {e : Int} (h : z.length <= 12) : (BA b z e).2.2.length <= 12 := by
 unfold BA
 split
 .exact h
 split
 .exact h
 simp; omega
theorem CI.mark {vis : List (AE × Bool)} {g g' : List AM} {z z' h h' : List Int} {met : List AE} {x : AE} (hi : CI p vis g z h met) (hx : x ∈ B4 p) (hv : BR vis x = false) (hz : z'.length <= 12) (hg : g'.length <= g.length + 1) (hh : h'.length <= h.length + 1) : CI p (Ay x true vis) g' z' h' (met ++ [x]) := by
 have hlt := Sx hx hv
 have h1 := hi.lg; have h2 := hi.lh; have h3 := hi.lm
 refine ⟨fun y => ?_, hz, by omega, by omega, by simp; omega⟩
 rw [List.mem_append, hi.mt, FZ]
 simp only [List.mem_singleton]
 exact Or.comm
def XD (p : AH) (n : CF) (r : AO) (m : Nat) (b : Bool) (vis : List (AE × Bool)) (g : List AM) (z h : List Int) (met : List AE) (x : AE) : Prop :=
 ∃ b' vis' g' z' h' met', Me m (Ea p r g z h b met, x) = some (Ea p r g' z' h' b' met') /\ CI p vis' g' z' h' met' /\ GC p vis' <= GC p vis /\
  ∀ l k, FI p r.steps 700 k vis g z h (l ++ [x]) -> ∃ k', AQ (Bs n r r.steps r.needs p) (b, vis, g, z, h, l ++ [x]) = AQ (Bs n r r.steps r.needs p) (b', vis', g', z', h', l) /\ FI p r.steps 700 k' vis' g' z' h' l
theorem K3 {m : Nat} (ih : ∀ b vis g z h met x, GC p vis < m -> x ∈ B4 p -> CI p vis g z h met -> XD p n r m b vis g z h met x) {b : Bool} {vis : List (AE × Bool)} {g : List AM} {z h : List Int} {met : List AE} (y : AE) (hu : GC p vis < m) (hi : CI p vis g z h met) :
  ∃ b' vis' g' z' h' met', Ps p (Me m) (Ea p r g z h b met) y = some (Ea p r g' z' h' b' met') /\ CI p vis' g' z' h' met' /\ GC p vis' <= GC p vis /\
   ∀ l k, FI p r.steps 700 k vis g z h (Dd p l y) -> ∃ k', AQ (Bs n r r.steps r.needs p) (b, vis, g, z, h, Dd p l y) = AQ (Bs n r r.steps r.needs p) (b', vis', g', z', h', l) /\ FI p r.steps 700 k' vis' g' z' h' l := by
 unfold Ps Dd
 cases hy : Ap p y with
 | none => exact ⟨b, vis, g, z, h, met, rfl, hi, Nat.le_refl _, fun l k hf => ⟨k, rfl, hf⟩⟩
 | some q => exact ih b vis g z h met q hu (Gi hy) hi
theorem Sy {x : AE} (h : Cj p x = true) (k2 : AY p x.elem ≠ 2) (k4 : AY p x.elem ≠ 4) : ∃ o, BC p x.elem x.fin 0 = some o := by
 obtain ⟨f1, f2, f3⟩ := Dh h
 have h' : Cj p ⟨x.elem, x.fin⟩ = true := h
 unfold BC Bn
 rw [h']
 simp only [if_true]
 by_cases k1 : AY p x.elem = 1
 .rw [if_pos k1]; exact ⟨_, by simp [CM]; rfl⟩
 by_cases k3 : AY p x.elem = 3
 .rw [if_neg k1, if_pos k3]; exact ⟨_, by simp [CM]; rfl⟩
 have : Bx (AY p x.elem) = 0 := by unfold Bx; rw [if_neg k1, if_neg k2, if_neg k3, if_neg k4]
 omega
theorem X9 (hv : B8 p) (hn : Ck p n) (h1 : r.steps.length <= 12) (h2 : r.needs.length <= 1000) : ∀ (m : Nat) (b : Bool) (vis : List (AE × Bool)) (g : List AM) (z h : List Int) (met : List AE) (x : AE), GC p vis < m -> x ∈ B4 p -> CI p vis g z h met -> XD p n r m b vis g z h met x := by
 intro m
 induction m with
 | zero => intro b vis g z h met x hu; omega
 | succ m ih =>
  intro b vis g z h met x hu hx hi
  have lz := hi.lz; have lg := hi.lg; have lh := hi.lh; have lm := hi.lm
  have hhas : Cj p x = true := by
   obtain ⟨i, hi⟩ := List.mem_iff_getElem?.1 hx
   exact hv.join.has i x hi
  have hdec : ¬ (x.elem ∈ r.steps.map (·.elem) \/ x ∈ met) -> BR vis x = false /\ GC p (Ay x true vis) < m := fun c => by
   have : BR vis x = false := by
    cases hs : BR vis x with
    | false => rfl
    | true => exact absurd (.inr ((hi.mt x).2 hs)) c
   have := Sx hx this
   exact ⟨by assumption, by omega⟩
  have hcs : Me (m + 1) (Ea p r g z h b met, x) = Rn p r (Me m) g z h b met x := by
   show CG (Me m) (Ea p r g z h b met) x = _
   refine V6 hv h1 h2 (Me m) g z h b met x (fun c q S' hq hS => ?_) (by omega) (by omega) (by omega) (by omega)
   obtain ⟨hs, hu'⟩ := hdec c
   obtain ⟨b', vis', g', z', h', met', e, _⟩ := ih (BA b z x.elem).2.1 (Ay x true vis) g (BA b z x.elem).2.2 h (met ++ [x]) q hu' (Gi hq) (hi.mark hx hs (Q7 lz) (by omega) (by omega))
   rw [e] at hS; cases hS; rfl
  unfold XD
  rw [hcs]
  have round : ∀ l k, FI p r.steps 700 k vis g z h (l ++ [x]) -> ∀ s, s = JH p r.steps r.needs b vis g z h l x -> AQ (Bs n r r.steps r.needs p) (b, vis, g, z, h, l ++ [x]) = AQ (Bs n r r.steps r.needs p) s /\ FI p r.steps 700 (k + 1) s.2.1 s.2.2.1 s.2.2.2.1 s.2.2.2.2.1 s.2.2.2.2.2 := fun l k hf s hs => by
   have hm := hf.meas
   simp only [List.length_append, List.length_cons, List.length_nil] at hm
   refine ⟨CU ?_, QV hv hf hs⟩
   rw [hs]
   exact Md hn h1 h2 b vis g z h l x (by omega) (by omega) (by omega) (by omega)
  unfold Rn
  by_cases c : x.elem ∈ r.steps.map (·.elem) \/ x ∈ met
  .rw [if_pos c]
   refine ⟨b, vis, g, z, h, met, rfl, hi, Nat.le_refl _, fun l k hf => ⟨k + 1, ?_⟩⟩
   have := round l k hf _ rfl
   unfold JH at this
   rw [if_pos (by rw [<- hi.mt]; exact c)] at this
   exact this
  rw [if_neg c]
  obtain ⟨hs, hu'⟩ := hdec c
  have hul := V2 (p := p) (vis := vis) x
  have c' : ¬ (x.elem ∈ r.steps.map (·.elem) \/ BR vis x = true) := by rw [<- hi.mt]; exact c
  unfold JH at round
  simp only [if_neg c'] at round
  by_cases k1 : 0 <= A0 p x /\ p.hard = false
  .rw [if_pos k1]
   simp only [if_pos k1] at round
   refine ⟨b, Ay x true vis, g, z, _, met ++ [x], rfl, hi.mark hx hs lz (by omega) (by split <;> simp), hul, fun l k hf => ⟨k + 1, round l k hf _ rfl⟩⟩
  rw [if_neg k1]
  simp only [if_neg k1] at round
  by_cases k4 : AY p x.elem = 4
  .rw [if_pos k4]
   simp only [if_pos k4] at round
   exact ⟨true, Ay x true vis, g, z, h, met ++ [x], rfl, hi.mark hx hs lz (by omega) (by omega), hul, fun l k hf => ⟨k + 1, round l k hf _ rfl⟩⟩
  rw [if_neg k4]
  simp only [if_neg k4] at round
  have hc2 := hi.mark (g' := g) (z' := (BA b z x.elem).2.2) (h' := h) hx hs (Q7 lz) (by omega) (by omega)
  have stay : ¬ (BA b z x.elem).1 = true -> ∀ (P : Prop), True := fun _ _ => trivial
  by_cases k2 : AY p x.elem = 2
  .rw [if_pos k2]
   simp only [if_pos k2] at round
   by_cases f0 : x.fin = 0
   .rw [if_pos f0]
    simp only [if_pos f0] at round
    by_cases t1 : (BA b z x.elem).1 = true
    .rw [if_pos t1]
     simp only [if_pos t1] at round
     obtain ⟨b1, v1, g1, z1, q1, m1, e1, i1, u1, s1⟩ := K3 ih (b := (BA b z x.elem).2.1) ⟨x.elem, 1⟩ hu' hc2
     obtain ⟨b2, v2, g2, z2, q2, m2, e2, i2, u2, s2⟩ := K3 ih (b := b1) (vis := v1) ⟨x.elem, 2⟩ (by omega) i1
     refine ⟨b2, v2, g2, z2, q2, m2, by rw [e1]; exact e2, i2, by omega, fun l k hf => ?_⟩
     obtain ⟨r1, r2⟩ := round l k hf _ rfl
     obtain ⟨k3, r3, r4⟩ := s1 _ _ r2
     obtain ⟨k5, r5, r6⟩ := s2 _ _ r4
     exact ⟨k5, r1.trans (r3.trans r5), r6⟩
    rw [if_neg t1]
    simp only [if_neg t1] at round
    exact ⟨_, Ay x true vis, g, _, h, met ++ [x], rfl, hc2, hul, fun l k hf => ⟨k + 1, round l k hf _ rfl⟩⟩
   rw [if_neg f0]
   simp only [if_neg f0] at round
   by_cases a : (⟨x.elem, x.fin⟩ : AM) ∈ r.needs \/ (⟨x.elem, x.fin⟩ : AM) ∈ g
   .rw [if_pos a]
    simp only [if_pos a] at round
    by_cases t1 : (BA b z x.elem).1 = true
    .rw [if_pos t1]
     simp only [if_pos t1] at round
     obtain ⟨b1, v1, g1, z1, q1, m1, e1, i1, u1, s1⟩ := K3 ih (b := (BA b z x.elem).2.1) ⟨x.elem, 0⟩ hu' hc2
     refine ⟨b1, v1, g1, z1, q1, m1, e1, i1, by omega, fun l k hf => ?_⟩
     obtain ⟨r1, r2⟩ := round l k hf _ rfl
     obtain ⟨k3, r3, r4⟩ := s1 _ _ r2
     exact ⟨k3, r1.trans r3, r4⟩
    rw [if_neg t1]
    simp only [if_neg t1] at round
    exact ⟨_, Ay x true vis, g, _, h, met ++ [x], rfl, hc2, hul, fun l k hf => ⟨k + 1, round l k hf _ rfl⟩⟩
   rw [if_neg a]
   simp only [if_neg a] at round
   exact ⟨b, Ay x true vis, _, z, h, met ++ [x], rfl, hi.mark hx hs lz (by split <;> simp) (by omega), hul, fun l k hf => ⟨k + 1, round l k hf _ rfl⟩⟩
  rw [if_neg k2]
  simp only [if_neg k2] at round
  obtain ⟨o, ho⟩ : ∃ o, BC p x.elem x.fin 0 = some o := Sy hhas k2 k4
  simp only [ho] at round
  rw [ho, Option.getD_some]
  by_cases t1 : (BA b z x.elem).1 = true
  .rw [if_pos t1]
   simp only [if_pos t1] at round
   obtain ⟨b1, v1, g1, z1, q1, m1, e1, i1, u1, s1⟩ := K3 ih (b := (BA b z x.elem).2.1) ⟨x.elem, o⟩ hu' hc2
   refine ⟨b1, v1, g1, z1, q1, m1, e1, i1, by omega, fun l k hf => ?_⟩
   obtain ⟨r1, r2⟩ := round l k hf _ rfl
   obtain ⟨k3, r3, r4⟩ := s1 _ _ r2
   exact ⟨k3, r1.trans r3, r4⟩
  rw [if_neg t1]
  simp only [if_neg t1] at round
  exact ⟨_, Ay x true vis, g, _, h, met ++ [x], rfl, hc2, hul, fun l k hf => ⟨k + 1, round l k hf _ rfl⟩⟩
end
end Go.E
/- Plain Lean: the flank of a road: the document's answer and the program's are one (law FlankOfs). No condition. -/
namespace Go.E
open Go
section
variable {p : AH} {n : CF} {r : AO}
theorem YA (hv : B8 p) (g : List AM) (z h : List Int) (b : Bool) (met : List AE) {x y : AE} (hy : Ap p x = some y) {g' : List AM} {z' h' : List Int} {b' : Bool} {met' : List AE} (hc : Me 1000 (Ea p r g z h b met, y) = some (Ea p r g' z' h' b' met')) :
  IH (Ea p r g z h b met) x.elem x.fin = some (Ea p r g' z' h' b' met') := by
 have hj := hv.nj
 show Cn (NW (fun (rc : (Ab × Int × Int) -> Option Ab) (a : (Ab × Int × Int)) => Cn rc a.1 a.2.1 a.2.2) 999) (Ea p r g z h b met) x.elem x.fin = _
 have hc' : G0 (Ea p r g z h b met) y = some (Ea p r g' z' h' b' met') := hc
 unfold Cn Ea at *
 simp only [CL p (show p.joins.length < 1000000 by omega), hy, Option.bind_some, Option.isSome_some, cond_true, Option.getD_some, hc']
def Yv (p : AH) (r : AO) (i : Int) (g : List AM) (z h : List Int) (b : Bool) (met : List AE) : Int × (List Bm) × (List Bl) × (List A9) × (List B6) × Int × Int × Int × Int × Bool × Int × Int × Int × (List Ao) × (List AM) × Bool × (List AM) × (List Int) × (List Int) × (List AE) :=
 (i, p.elems, p.joins, p.signals, p.lines, p.top, p.brake, p.margin, p.throw, p.hard, r.frm, r.to, r.fin, r.steps, r.needs, b, g, z, h, met)
theorem U2 (hv : B8 p) (hn : Ck p n) (h1 : r.steps.length <= 12) (h2 : r.needs.length <= 1000) (L : List AE) (hL : L.length <= 24) (hLj : ∀ x ∈ L, ∃ y, Ap p x = some y) : ∀ (rest : List AE) (i : Nat) (b : Bool) (vis : List (AE × Bool)) (g : List AM) (z h : List Int) (met : List AE) (k : Nat), L.drop i = rest -> i <= L.length -> CI p vis g z h met -> FI p r.steps 700 k vis g z h (Db p rest).reverse ->
  ∃ R, AQ (Ex L) (Yv p r (i : Int) g z h b met) = some R /\ AQ (Bs n r r.steps r.needs p) (b, vis, g, z, h, (Db p rest).reverse) = some R := by
 have hj := hv.nj
 intro rest
 induction rest with
 | nil =>
  intro i b vis g z h met k hd hi hc hf
  have : i = L.length := by have := congrArg List.length hd; simp at this; omega
  subst this
  refine ⟨⟨r.frm, r.to, r.fin, r.steps, r.needs, g, z, h, b⟩, DZ ?_, DZ rfl⟩
  simp [Ex, Yv]
 | cons x rest ih =>
  intro i b vis g z h met k hd hi hc hf
  have hlt : i < L.length := by have := congrArg List.length hd; simp at this; omega
  have hx : L[i]? = some x := by
   have : (L.drop i)[0]? = some x := by rw [hd]; rfl
   simpa using this
  have hr : L.drop (i + 1) = rest := by
   have : (L.drop i).drop 1 = rest := by rw [hd]; rfl
   rwa [List.drop_drop] at this
  obtain ⟨y, hy⟩ := hLj x (List.mem_of_getElem? hx)
  have hq : (Db p (x :: rest)).reverse = (Db p rest).reverse ++ [y] := by unfold Db; simp [hy]
  have hu : GC p vis < 1000 := by
   have h3 : GC p vis <= (B4 p).length := List.length_filter_le _ _
   have h4 : (B4 p).length = 2 * p.joins.length := E7 _
   omega
  obtain ⟨b', vis', g', z', h', met', e1, i1, u1, s1⟩ := X9 hv hn h1 h2 1000 b vis g z h met y hu (Gi hy) hc
  rw [hq] at hf ⊢
  obtain ⟨k', e2, f2⟩ := s1 _ _ hf
  obtain ⟨R, e3, e4⟩ := ih (i + 1) b' vis' g' z' h' met' k' hr (by omega) i1 f2
  refine ⟨R, ?_, by rw [e2, e4]⟩
  rw [<- e3]
  refine CU ?_
  have hon := YA (r := r) hv g z h b met hy e1
  unfold Ea at hon
  simp only [Ex, Yv, Be hx, cond_true, Ah, hx, Option.bind_some]
  rw [hon]
  simp only [Option.bind_some, AT (show i < 1000000000 by omega)]
  simp only [Int.ofNat_lt, hlt, decide_true, cond_true]
theorem XE (hv : B8 p) (hn : Ck p n) (h1 : r.steps.length <= 12) (h2 : r.needs.length <= 1000) : ∃ R, Fz p r = some R /\ FR n r = some R := by
 have hj := hv.nj
 have hp := J3 (p := p) r.steps
 rw [LO hv hn h1 h2]
 unfold Fz
 simp only [BP (show ([] : List Ao).length + r.steps.length <= 4294967296 by simp; omega), BP (show ([] : List AM).length + r.needs.length <= 4294967296 by simp; omega), List.nil_append, Option.bind_some, Vz hv r (show r.steps.length <= 1000 by omega)]
 have h3 : GC p [] <= (B4 p).length := List.length_filter_le _ _
 have h4 : (B4 p).length = 2 * p.joins.length := E7 _
 refine U2 hv hn h1 h2 (DI p r.steps) (by omega) (fun x hx => IR hx) (DI p r.steps) 0 false [] [] [] [] [] 0 rfl (Nat.zero_le _) ⟨fun y => by simp [BR, AW], by simp, by simp; omega, by simp; omega, by simp; omega⟩ ⟨⟨by simp, by simp, by simp, by simp⟩, ⟨by simp, by simp⟩, fun _ => rfl, fun y hy => ?_, by simp, by simp, ?_⟩
 .have := List.mem_reverse.1 hy
  obtain ⟨x, hx, rfl⟩ := List.mem_map.1 this
  obtain ⟨y, hy⟩ := IR hx
  rw [hy]
  exact Gi hy
 simp only [Db, List.length_reverse, List.length_map]
 omega
end
end Go.E
/- Plain Lean: whether a road is ready, by the program and by the document (law FlankReady). No condition. -/
namespace Go.E
open Go
end Go.E
/- Plain Lean: a road that is ready is so no more when one thing is otherwise (law FlankOne). No condition. -/
namespace Go.E
open Go
section
variable {p : AH} {n : CF} {r : AO}
structure Zp (p : AH) (st : List Ao) (nd : List AM) : Prop where
 ok : ∀ m ∈ nd, m.elem ∈ st.map (·.elem) /\ AY p m.elem = 2 /\ (m.pos = 1 \/ m.pos = 2)
 nd : nd.Pairwise (fun a b => a.elem ≠ b.elem)
theorem Sz {s : Int} (h : r ∈ EZ p s) : Zp p r.steps r.needs := by
 obtain ⟨sg, nd, l, h1, h2, h3, h4, h5, h6, h7⟩ := Hr (D8 h).1
 have := Ni (by simp) (by simp) h4
 rw [h7]
 exact ⟨fun m hm => by simpa using this.1 m hm, this.2.1⟩
theorem U3 {s : Int} (h : r ∈ EZ p s) (st : Ao) (hst : st ∈ r.steps) : AY p st.elem ≠ 0 := fun e => by
 have := (V0 h).1 st hst
 unfold Sv at this
 omega
theorem YB {st : List Ao} {nd g : List AM} (h1 : Zp p st nd) (h2 : V4 p st g) : (∀ m ∈ nd ++ g, 0 <= m.elem /\ m.elem < p.elems.length /\ (m.pos = 1 \/ m.pos = 2)) /\ (nd ++ g).Pairwise (fun a b => a.elem ≠ b.elem) := by
 refine ⟨fun m hm => ?_, ?_⟩
 .have hk : AY p m.elem = 2 /\ (m.pos = 1 \/ m.pos = 2) := by
   rcases List.mem_append.1 hm with hm | hm
   .exact (h1.ok m hm).2
   exact (h2.ok m hm).2
  have := J2 (p := p) (e := m.elem) (by rw [hk.1]; decide)
  exact ⟨this.1, this.2, hk.2⟩
 rw [List.pairwise_append]
 refine ⟨h1.nd, h2.nd, fun a ha b hb e => ?_⟩
 have := (h1.ok a ha).1
 rw [e] at this
 exact (h2.ok b hb).1 this
theorem S0 {n : Int} {k : Nat} (h0 : 0 <= n) (hk : 0 < k) : ∃ j : Nat, j < k /\ QF n (k : Int) = some (j : Int) := by
 obtain ⟨m, rfl⟩ := Int.eq_ofNat_of_zero_le h0
 refine ⟨m % k, Nat.mod_lt _ hk, ?_⟩
 unfold QF
 rw [if_neg (by omega)]
 rfl
end
end Go.E
/- Plain Lean: what a road's flank keeps: nobody comes in but from its zone (law FlankKeeps). No condition. -/
namespace Go.E
open Go
section
variable {p : AH} {n : CF} {r : AO}
theorem YC {e i x o : Int} (h : AY p e = 2) (hi : i ≠ 0) (ht : BC p e i x = some o) : o = 0 /\ x = i := by
 unfold BC Bn at ht
 split at ht
 .rw [if_neg (by omega), if_neg (by omega)] at ht
  simp only [CM] at ht
  split at ht
  .rename_i hc
   cases ht
   rcases hc with hc | hc
   .exact absurd hc hi
   exact ⟨rfl, hc.symm⟩
  cases ht
 cases ht
theorem YD {e x o : Int} (h : AY p e = 2) (ht : BC p e 0 x = some o) : o = 1 \/ o = 2 := by
 unfold BC Bn at ht
 split at ht
 .rw [if_neg (by omega), if_neg (by omega), if_pos rfl] at ht
  simp only [CM] at ht
  split at ht
  .cases ht; exact .inl rfl
  split at ht
  .cases ht; exact .inr rfl
  cases ht
 cases ht
def T8 (st : List Ao) (vis : List (AE × Bool)) (l : List AE) (y : AE) : Prop := y ∈ l \/ BR vis y = true \/ y.elem ∈ st.map (·.elem)
structure S1 (p : AH) (nd g : List AM) (z h : List Int) (at_ : AE -> Prop) (x : AE) : Prop where
 held : 0 <= A0 p x /\ p.hard = false -> A0 p x ∈ h
 gate : ¬ (0 <= A0 p x /\ p.hard = false) -> AY p x.elem ≠ 4
 toe : ¬ (0 <= A0 p x /\ p.hard = false) -> AY p x.elem = 2 -> x.fin = 0 -> x.elem ∈ z /\ ∀ o, (o = 1 \/ o = 2) -> ∀ y, Ap p ⟨x.elem, o⟩ = some y -> at_ y
 leg : ¬ (0 <= A0 p x /\ p.hard = false) -> AY p x.elem = 2 -> x.fin ≠ 0 -> (x.elem ∈ z /\ ∀ y, Ap p ⟨x.elem, 0⟩ = some y -> at_ y) \/ (⟨x.elem, AZ (3 - x.fin)⟩ : AM) ∈ g
 other : ¬ (0 <= A0 p x /\ p.hard = false) -> AY p x.elem ≠ 2 -> ∀ o, BC p x.elem x.fin 0 = some o -> x.elem ∈ z /\ ∀ y, Ap p ⟨x.elem, o⟩ = some y -> at_ y
theorem S1.mono {nd g g' : List AM} {z z' h h' : List Int} {a a' : AE -> Prop} {x : AE} (hk : S1 p nd g z h a x) (hg : ∀ m ∈ g, m ∈ g') (hz : ∀ m ∈ z, m ∈ z') (hh : ∀ m ∈ h, m ∈ h') (ha : ∀ y, a y -> a' y) : S1 p nd g' z' h' a' x :=
 ⟨fun c => hh _ (hk.held c), hk.gate, fun c k f => ⟨hz _ (hk.toe c k f).1, fun o ho y hy => ha _ ((hk.toe c k f).2 o ho y hy)⟩,
  fun c k f => (hk.leg c k f).imp (fun q => ⟨hz _ q.1, fun y hy => ha _ (q.2 y hy)⟩) (hg _), fun c k o ho => ⟨hz _ (hk.other c k o ho).1, fun y hy => ha _ ((hk.other c k o ho).2 y hy)⟩⟩
structure KI (p : AH) (st : List Ao) (nd : List AM) (b : Bool) (vis : List (AE × Bool)) (g : List AM) (z h : List Int) (l : List AE) : Prop where
 seen : b = false -> ∀ x, BR vis x = true -> S1 p nd g z h (T8 st vis l) x
 init : ∀ x y, x ∈ DI p st -> Ap p x = some y -> T8 st vis l y
theorem KI.next {st : List Ao} {nd : List AM} {b b' : Bool} {vis vis' : List (AE × Bool)} {g g' : List AM} {z z' h h' : List Int} {l l' : List AE} {x : AE} (hi : KI p st nd b vis g z h (l ++ [x]))
  (hb : b' = false -> b = false) (hv : ∀ y, BR vis y = true -> BR vis' y = true) (hv2 : ∀ y, BR vis' y = true -> BR vis y = true \/ y = x) (hl : ∀ y ∈ l, y ∈ l') (hx : BR vis' x = true \/ x.elem ∈ st.map (·.elem))
  (hg : ∀ m ∈ g, m ∈ g') (hz : ∀ m ∈ z, m ∈ z') (hh : ∀ m ∈ h, m ∈ h') (hr : b' = false -> BR vis x = false -> BR vis' x = true -> S1 p nd g' z' h' (T8 st vis' l') x) : KI p st nd b' vis' g' z' h' l' := by
 have ha : ∀ y, T8 st vis (l ++ [x]) y -> T8 st vis' l' y := by
  rintro y (hy | hy | hy)
  .rcases List.mem_append.1 hy with hy | hy
   .exact .inl (hl y hy)
   simp at hy; subst hy; exact .inr hx
  .exact .inr (.inl (hv y hy))
  exact .inr (.inr hy)
 refine ⟨fun hb' y hy => ?_, fun y q hy hq => ha q (hi.init y q hy hq)⟩
 cases hs : BR vis y with
 | true => exact (hi.seen (hb hb') y hs).mono hg hz hh ha
 | false =>
  rcases hv2 y hy with hy2 | rfl
  .rw [hs] at hy2; cases hy2
  exact hr hb' hs hy
theorem Np {b : Bool} {z : List Int} {e m : Int} (hm : m ∈ z) : m ∈ (BA b z e).2.2 := by
 unfold BA
 split
 .exact hm
 split
 .exact hm
 exact List.mem_append_left _ hm
theorem Fa {b : Bool} {z : List Int} {e : Int} (h : (BA b z e).2.1 = false) : b = false /\ (BA b z e).1 = true /\ e ∈ (BA b z e).2.2 := by
 unfold BA at *
 split
 .rename_i c; rw [if_pos c] at h; exact ⟨h, rfl, c⟩
 rename_i c
 rw [if_neg c] at h
 split
 .rename_i d; rw [if_pos d] at h; cases h
 rename_i d; rw [if_neg d] at h; exact ⟨h, rfl, by simp⟩
theorem Jh {l : List AE} {x y : AE} (h : y ∈ l) : y ∈ Dd p l x := by
 unfold Dd
 split
 .exact List.mem_append_left _ h
 exact h
theorem K4 {l : List AE} {x y : AE} (h : Ap p x = some y) : y ∈ Dd p l x := by
 unfold Dd
 rw [h]
 simp
theorem YE {st : List Ao} {nd : List AM} {b : Bool} {vis : List (AE × Bool)} {g : List AM} {z h : List Int} {l : List AE} {x : AE} (hi : KI p st nd b vis g z h (l ++ [x])) {s : FS} (hs : s = JH p st nd b vis g z h l x) :
  KI p st nd s.1 s.2.1 s.2.2.1 s.2.2.2.1 s.2.2.2.2.1 s.2.2.2.2.2 := by
 have sx : BR (Ay x true vis) x = true := (FZ vis x x).2 (.inl rfl)
 have s1 : ∀ y, BR vis y = true -> BR (Ay x true vis) y = true := fun y hy => (FZ vis x y).2 (.inr hy)
 have s2 : ∀ y, BR (Ay x true vis) y = true -> BR vis y = true \/ y = x := fun y hy => ((FZ vis x y).1 hy).symm
 unfold JH at hs
 by_cases c : x.elem ∈ st.map (·.elem) \/ BR vis x = true
 .rw [if_pos c] at hs
  subst hs
  exact hi.next (fun h => h) (fun _ h => h) (fun _ h => .inl h) (fun _ h => h) c.symm (fun _ h => h) (fun _ h => h) (fun _ h => h) fun _ hn hy => (by rw [hn] at hy; cases hy)
 rw [if_neg c] at hs
 by_cases k1 : 0 <= A0 p x /\ p.hard = false
 .rw [if_pos k1] at hs
  subst hs
  refine hi.next (fun h => h) s1 s2 (fun _ h => h) (.inl sx) (fun _ h => h) (fun _ h => h) (fun m hm => ?_) fun _ _ _ => ⟨fun _ => ?_, fun q => absurd k1 q, fun q => absurd k1 q, fun q => absurd k1 q, fun q => absurd k1 q⟩
  .dsimp only; split
   .exact hm
   exact List.mem_append_left _ hm
  dsimp only; split
  .assumption
  simp
 rw [if_neg k1] at hs
 by_cases k4 : AY p x.elem = 4
 .rw [if_pos k4] at hs
  subst hs
  exact hi.next (fun h => (by cases h)) s1 s2 (fun _ h => h) (.inl sx) (fun _ h => h) (fun _ h => h) (fun _ h => h) fun h => (by cases h)
 rw [if_neg k4] at hs
 by_cases k2 : AY p x.elem = 2
 .rw [if_pos k2] at hs
  by_cases f0 : x.fin = 0
  .rw [if_pos f0] at hs
   subst hs
   refine hi.next (fun hb => (Fa hb).1) s1 s2 (fun y hy => ?_) (.inl sx) (fun _ h => h) (fun _ h => Np h) (fun _ h => h) fun hb _ _ => ⟨fun q => absurd q k1, fun _ => k4, fun _ _ _ => ⟨(Fa hb).2.2, fun o ho y hy => .inl ?_⟩, fun _ _ f => absurd f0 f, fun _ q => absurd k2 q⟩
   .dsimp only; split
    .exact Jh (Jh hy)
    exact hy
   dsimp only
   rw [if_pos (Fa hb).2.1]
   rcases ho with rfl | rfl
   .exact K4 hy
   exact Jh (K4 hy)
  rw [if_neg f0] at hs
  by_cases a : (⟨x.elem, x.fin⟩ : AM) ∈ nd \/ (⟨x.elem, x.fin⟩ : AM) ∈ g
  .rw [if_pos a] at hs
   subst hs
   refine hi.next (fun hb => (Fa hb).1) s1 s2 (fun y hy => ?_) (.inl sx) (fun _ h => h) (fun _ h => Np h) (fun _ h => h) fun hb _ _ => ⟨fun q => absurd q k1, fun _ => k4, fun _ _ f => absurd f f0, fun _ _ _ => .inl ⟨(Fa hb).2.2, fun y hy => .inl ?_⟩, fun _ q => absurd k2 q⟩
   .dsimp only; split
    .exact Jh hy
    exact hy
   dsimp only
   rw [if_pos (Fa hb).2.1]
   exact K4 hy
  rw [if_neg a] at hs
  subst hs
  refine hi.next (fun h => h) s1 s2 (fun _ h => h) (.inl sx) (fun m hm => ?_) (fun _ h => h) (fun _ h => h) fun hb _ _ => ⟨fun q => absurd q k1, fun _ => k4, fun _ _ f => absurd f f0, fun _ _ _ => .inr ?_, fun _ q => absurd k2 q⟩
  .dsimp only; split
   .exact hm
   exact List.mem_append_left _ hm
  dsimp only; split
  .assumption
  simp
 rw [if_neg k2] at hs
 cases ht : BC p x.elem x.fin 0 with
 | none =>
  rw [ht] at hs
  subst hs
  exact hi.next (fun h => h) s1 s2 (fun _ h => h) (.inl sx) (fun _ h => h) (fun _ h => h) (fun _ h => h) fun hb _ _ => ⟨fun q => absurd q k1, fun _ => k4, fun _ q => absurd q k2, fun _ q => absurd q k2, fun _ _ o ho => (by rw [ht] at ho; cases ho)⟩
 | some o =>
  rw [ht] at hs
  subst hs
  refine hi.next (fun hb => (Fa hb).1) s1 s2 (fun y hy => ?_) (.inl sx) (fun _ h => h) (fun _ h => Np h) (fun _ h => h) fun hb _ _ => ⟨fun q => absurd q k1, fun _ => k4, fun _ q => absurd q k2, fun _ q => absurd q k2, fun _ _ o' ho => ?_⟩
  .dsimp only; split
   .exact Jh hy
   exact hy
  rw [ht] at ho
  cases ho
  refine ⟨(Fa hb).2.2, fun y hy => .inl ?_⟩
  dsimp only
  rw [if_pos (Fa hb).2.1]
  exact K4 hy
theorem Tb (hv : B8 p) (hn : Ck p n) (h1 : r.steps.length <= 12) (h2 : r.needs.length <= 1000) : ∃ g z h b, FR n r = some ⟨r.frm, r.to, r.fin, r.steps, r.needs, g, z, h, b⟩ /\ T7 p r.steps z /\ V4 p r.steps g /\ (p.hard = true -> h = []) /\ g.length <= 700 /\ h.length <= 700 /\
  ∃ vis, KI p r.steps r.needs b vis g z h [] := by
 have hj := hv.nj
 have hp := J3 (p := p) r.steps
 rw [LO hv hn h1 h2]
 obtain ⟨R, e1, g, z, h, b, rfl, e2⟩ := D0 (step := Bs n r r.steps r.needs p) (Post := fun R => ∃ g z h b, R = (⟨r.frm, r.to, r.fin, r.steps, r.needs, g, z, h, b⟩ : AO) /\ T7 p r.steps z /\ V4 p r.steps g /\ (p.hard = true -> h = []) /\ g.length <= 700 /\ h.length <= 700 /\ ∃ vis, KI p r.steps r.needs b vis g z h [])
  (fun k s => FI p r.steps 700 k s.2.1 s.2.2.1 s.2.2.2.1 s.2.2.2.2.1 s.2.2.2.2.2 /\ KI p r.steps r.needs s.1 s.2.1 s.2.2.1 s.2.2.2.1 s.2.2.2.2.1 s.2.2.2.2.2) 700 (s := (false, [], [], [], [], (Db p (DI p r.steps)).reverse)) (by
   rintro k ⟨b, vis, g, z, h, l⟩ ⟨hi, hk⟩
   have hm := hi.meas
   have hlg := hi.lg
   have hlh := hi.lh
   have hzl := hi.zok.len
   dsimp only at hm hlg hlh hzl hi hk
   rcases List.eq_nil_or_concat l with rfl | ⟨l', x, rfl⟩
   .left
    exact ⟨_, rfl, g, z, h, b, rfl, hi.zok, hi.gok, hi.hold, by omega, by omega, vis, hk⟩
   .right
    rw [List.concat_eq_append] at hi hm hk ⊢
    simp only [List.length_append, List.length_cons, List.length_nil] at hm
    refine ⟨by omega, _, Md hn h1 h2 b vis g z h l' x (by omega) (by omega) (by omega) (by omega), QV hv hi rfl, YE hk rfl⟩) (by
   refine ⟨⟨⟨by simp, by simp, by simp, by simp⟩, ⟨by simp, by simp⟩, fun _ => rfl, fun y hy => ?_, by simp, by simp, ?_⟩, fun _ x hx => ?_, fun x y hx hy => .inl ?_⟩
   .have := List.mem_reverse.1 hy
    obtain ⟨x, hx, rfl⟩ := List.mem_map.1 this
    obtain ⟨y, hy⟩ := IR hx
    rw [hy]
    exact Gi hy
   .have h3 : GC p [] <= (B4 p).length := List.length_filter_le _ _
    have h4 : (B4 p).length = 2 * p.joins.length := E7 _
    simp only [Db, List.length_reverse, List.length_map]
    omega
   .simp [BR, AW] at hx
   rw [List.mem_reverse]
   exact List.mem_map.2 ⟨x, hx, by rw [hy]; rfl⟩)
 exact ⟨g, z, h, b, e1, e2⟩
end
end Go.E
/- Plain Lean: whether a road's flank keeps all others out, told without an order (Pt, V7), and the program's answer. No condition. -/
namespace Go.E
open Go
def Iy (nl : List AM) (e : Int) : Option Int := (nl.find? fun m => m.elem == e).map (·.pos)
def U4 (lay : Int -> Option Int) (e : Int) (w : Cp) : List Int := if w.pos = 0 \/ lay e = none \/ lay e = some w.pos then [w.out] else []
def IU (p : AH) (lay : Int -> Option Int) (x : AE) : List Int := (Bn p x.elem x.fin).flatMap (U4 lay x.elem)
def J5 (p : AH) (holds : List Int) (x : AE) : Prop := p.hard = false /\ 0 <= A0 p x /\ A0 p x ∈ holds
instance (p : AH) (holds : List Int) (x : AE) : Decidable (J5 p holds x) := by unfold J5; infer_instance
def K5 (p : AH) (lay : Int -> Option Int) (zone : List Int) (x : AE) : Prop := AY p x.elem ≠ 4 /\ (IU p lay x ≠ [] -> x.elem ∈ zone)
instance (p : AH) (lay : Int -> Option Int) (zone : List Int) (x : AE) : Decidable (K5 p lay zone x) := by unfold K5; infer_instance
inductive Mg (p : AH) (lay : Int -> Option Int) (holds : List Int) (st : List Ao) : AE -> Prop
 | init {x y : AE} : x ∈ DI p st -> Ap p x = some y -> Mg p lay holds st y
 | step {x y : AE} {o : Int} : Mg p lay holds st x -> x.elem ∉ st.map (·.elem) -> ¬ J5 p holds x -> o ∈ IU p lay x -> Ap p ⟨x.elem, o⟩ = some y -> Mg p lay holds st y
def Pt (p : AH) (lay : Int -> Option Int) (holds zone : List Int) (st : List Ao) : Prop := ∀ x, Mg p lay holds st x -> x.elem ∉ st.map (·.elem) -> ¬ J5 p holds x -> K5 p lay zone x
def Mh (nl : List AM) : Prop := ∀ a ∈ nl, ∀ b ∈ nl, a.elem = b.elem -> a.pos = b.pos
structure V7 (p : AH) (r : AO) : Prop where
 cons : Mh (r.needs ++ r.guards)
 guard : ∀ m ∈ r.guards, AY p m.elem = 2 /\ (m.pos = 1 \/ m.pos = 2)
 zone : ∀ e ∈ r.zone, 0 <= e /\ e < p.elems.length /\ e ∉ r.steps.map (·.elem)
 hold : ∀ s ∈ r.holds, 0 <= s /\ s < p.signals.length
 kept : Pt p (Iy (r.needs ++ r.guards)) r.holds r.zone r.steps
theorem U5 {p : AH} {lay : Int -> Option Int} {x : AE} {o : Int} : o ∈ IU p lay x ↔ ∃ w ∈ Bn p x.elem x.fin, (w.pos = 0 \/ lay x.elem = none \/ lay x.elem = some w.pos) /\ w.out = o := by
 unfold IU
 rw [List.mem_flatMap]
 constructor
 .rintro ⟨w, hw, ho⟩
  unfold U4 at ho
  split at ho
  .simp at ho; exact ⟨w, hw, ‹_›, ho.symm⟩
  cases ho
 rintro ⟨w, hw, hc, rfl⟩
 exact ⟨w, hw, by unfold U4; rw [if_pos hc]; simp⟩
section
variable {p : AH} {n : CF} {r : AO} {lay : Int -> Option Int} {holds zone : List Int} {st : List Ao}
structure GI (p : AH) (lay : Int -> Option Int) (holds zone : List Int) (st : List Ao) (V : AE -> Prop) (q : List AE) : Prop where
 arr : ∀ x ∈ q, Mg p lay holds st x
 full : ∀ x, V x -> x.elem ∉ st.map (·.elem) -> ¬ J5 p holds x -> K5 p lay zone x /\ ∀ o ∈ IU p lay x, ∀ y, Ap p ⟨x.elem, o⟩ = some y -> y ∈ q \/ V y
 init : ∀ x y, x ∈ DI p st -> Ap p x = some y -> y ∈ q \/ V y
theorem GI.done {V : AE -> Prop} (h : GI p lay holds zone st V []) : Pt p lay holds zone st := by
 have key : ∀ x, Mg p lay holds st x -> V x := by
  intro x hx
  induction hx with
  | init h1 h2 => exact (h.init _ _ h1 h2).resolve_left (by simp)
  | step _ h2 h3 h4 h5 ih => exact ((h.full _ ih h2 h3).2 _ h4 _ h5).resolve_left (by simp)
 exact fun x hx h1 h2 => (h.full x (key x hx) h1 h2).1
theorem GI.bad {V : AE -> Prop} {x : AE} {q : List AE} (h : GI p lay holds zone st V (x :: q)) (h1 : x.elem ∉ st.map (·.elem)) (h2 : ¬ J5 p holds x) (hb : ¬ K5 p lay zone x) : ¬ Pt p lay holds zone st :=
 fun hk => hb (hk x (h.arr x (by simp)) h1 h2)
theorem GI.next {V V' : AE -> Prop} {x : AE} {q q' : List AE} (h : GI p lay holds zone st V (x :: q)) (hV : ∀ y, V y -> V' y) (hx : V' x) (hV2 : ∀ y, V' y -> V y \/ y = x) (hq : ∀ y ∈ q, y ∈ q') (hq2 : ∀ y ∈ q', Mg p lay holds st y)
  (hf : ¬ V x -> x.elem ∉ st.map (·.elem) -> ¬ J5 p holds x -> K5 p lay zone x /\ ∀ o ∈ IU p lay x, ∀ y, Ap p ⟨x.elem, o⟩ = some y -> y ∈ q' \/ V' y) : GI p lay holds zone st V' q' := by
 have keep : ∀ y, y ∈ x :: q \/ V y -> y ∈ q' \/ V' y := by
  rintro y (hy | hy)
  .rcases List.mem_cons.1 hy with rfl | hy
   .exact .inr hx
   exact .inl (hq y hy)
  exact .inr (hV y hy)
 refine ⟨hq2, fun y hy h1 h2 => ?_, fun a b ha hb => keep b (h.init a b ha hb)⟩
 by_cases c : V y
 .have := h.full y c h1 h2
  exact ⟨this.1, fun o ho z hz => keep z (this.2 o ho z hz)⟩
 rcases hV2 y hy with hy2 | rfl
 .exact absurd hy2 c
 exact hf c h1 h2
def S3 (p : AH) (e : Int) (l : List Int) : List AE := l.flatMap fun o => match Ap p ⟨e, o⟩ with
 | some y => [y]
 | none => []
theorem Pu {e o : Int} {l : List Int} {y : AE} : y ∈ S3 p e l ↔ ∃ o ∈ l, Ap p ⟨e, o⟩ = some y := by
 unfold S3
 rw [List.mem_flatMap]
 constructor
 .rintro ⟨o, ho, hy⟩
  cases hx : Ap p ⟨e, o⟩ with
  | none => rw [hx] at hy; cases hy
  | some z => rw [hx] at hy; simp at hy; subst hy; exact ⟨o, ho, hx⟩
 rintro ⟨o, ho, hy⟩
 exact ⟨o, ho, by rw [hy]; simp⟩
theorem GI.go {V V' : AE -> Prop} {x : AE} {q : List AE} (h : GI p lay holds zone st V (x :: q)) (h1 : x.elem ∉ st.map (·.elem)) (h2 : ¬ J5 p holds x) (hg : K5 p lay zone x) (hV : ∀ y, V' y ↔ V y \/ y = x) : GI p lay holds zone st V' (q ++ S3 p x.elem (IU p lay x)) := by
 have hx := h.arr x (by simp)
 refine h.next (fun y hy => (hV y).2 (.inl hy)) ((hV x).2 (.inr rfl)) (fun y hy => (hV y).1 hy) (fun y hy => List.mem_append_left _ hy) (fun y hy => ?_) (fun _ _ _ => ⟨hg, fun o ho y hy => .inl (List.mem_append_right _ (Pu (o := o) |>.2 ⟨o, ho, hy⟩))⟩)
 rcases List.mem_append.1 hy with hy | hy
 .exact h.arr y (by simp [hy])
 obtain ⟨o, ho, hy⟩ := (Pu (o := 0)).1 hy
 exact .step hx h1 h2 ho hy
end
end Go.E
/- Plain Lean: a road that is guarded keeps all out, whatever way other points lie; what a flank keeps is guarded. No condition. -/
namespace Go.E
open Go
theorem V8 {nl : List AM} {e : Int} : Iy nl e = none ↔ ∀ m ∈ nl, m.elem ≠ e := by
 unfold Iy
 rw [Option.map_eq_none_iff, List.find?_eq_none]
 simp only [beq_iff_eq]
theorem XF {nl : List AM} {e q : Int} (h : Iy nl e = some q) : (⟨e, q⟩ : AM) ∈ nl := by
 unfold Iy at h
 obtain ⟨m, hm, rfl⟩ := Option.map_eq_some_iff.1 h
 have h1 := List.mem_of_find?_eq_some hm
 have h2 := List.find?_some hm
 simp only [beq_iff_eq] at h2
 subst h2
 exact h1
theorem V9 {nl : List AM} (hc : Mh nl) {m : AM} (hm : m ∈ nl) : Iy nl m.elem = some m.pos := by
 cases h : Iy nl m.elem with
 | none => exact absurd rfl (V8.1 h m hm)
 | some q => rw [hc m hm _ (XF h) rfl]
theorem U6 {nl : List AM} (h : nl.Pairwise (fun a b => a.elem ≠ b.elem)) : Mh nl := by
 intro a ha b hb e
 induction nl with
 | nil => cases ha
 | cons c l ih =>
  rw [List.pairwise_cons] at h
  rcases List.mem_cons.1 ha with rfl | ha'
  .rcases List.mem_cons.1 hb with rfl | hb'
   .rfl
   exact absurd e (h.1 b hb')
  rcases List.mem_cons.1 hb with rfl | hb'
  .exact absurd e.symm (h.1 a ha')
  exact ih h.2 ha' hb'
section
variable {p : AH} {n : CF} {r : AO} {lay : Int -> Option Int} {holds zone : List Int} {st : List Ao} {lie : List Int} {shut : List Bool}
theorem U7 {nd g : List AM} {z h : List Int} {vis : List (AE × Bool)} (hj : FX p) (hk : KI p st nd false vis g z h []) (hc : Mh (nd ++ g)) : Pt p (Iy (nd ++ g)) h z st := by
 have fin : ∀ y, T8 st vis [] y -> BR vis y = true \/ y.elem ∈ st.map (·.elem) := fun y h => by
  rcases h with h | h
  .cases h
  exact h
 have main : ∀ x, Mg p (Iy (nd ++ g)) h st x -> BR vis x = true -> x.elem ∉ st.map (·.elem) -> ¬ J5 p h x -> K5 p (Iy (nd ++ g)) z x /\ ∀ o ∈ IU p (Iy (nd ++ g)) x, ∀ y, Ap p ⟨x.elem, o⟩ = some y -> BR vis y = true \/ y.elem ∈ st.map (·.elem) := by
  intro x hx hsx h1 h2
  have hr := hk.seen rfl x hsx
  have kn : ¬ (0 <= A0 p x /\ p.hard = false) := fun q => h2 ⟨q.2, q.1, hr.held q⟩
  have hback : ∀ o ∈ IU p (Iy (nd ++ g)) x, x.elem ∈ z /\ ∀ y, Ap p ⟨x.elem, o⟩ = some y -> BR vis y = true \/ y.elem ∈ st.map (·.elem) := by
   intro o ho
   obtain ⟨w, hw, hp, rfl⟩ := U5.1 ho
   obtain ⟨f1, f2, f3, f4, f5, f6⟩ := Jf hw
   by_cases k2 : AY p x.elem = 2
   .by_cases f0 : x.fin = 0
    .have ho : w.out = 1 \/ w.out = 2 := by
      rw [f0] at hw
      exact YD k2 (J1 hw (.inr rfl))
     have := hr.toe kn k2 f0
     exact ⟨this.1, fun y hy => fin _ (this.2 _ ho y hy)⟩
    obtain ⟨ho, hq⟩ := YC k2 f0 (J1 hw (.inr rfl) : BC p x.elem x.fin w.pos = some w.out)
    rcases hr.leg kn k2 f0 with hl | hl
    .exact ⟨hl.1, fun y hy => fin _ (hl.2 y (by rw [ho] at hy; exact hy))⟩
    exfalso
    have hs := V9 hc (List.mem_append_right nd hl)
    simp only at hs
    rw [hs] at hp
    have hw3 : AZ (3 - x.fin) = 3 - x.fin := by rw [k2] at f4; simp [Bx] at f4; rw [CR] <;> omega
    rw [k2] at f4
    simp [Bx] at f4
    rw [hw3, hq] at hp
    rcases hp with hp | hp | hp
    .omega
    .cases hp
    simp only [Option.some.injEq] at hp; omega
   have h0 : w.pos = 0 := by
    by_cases c : w.pos = 0
    .exact c
    exact absurd (f6 c).1 k2
   have := hr.other kn k2 w.out (J1 hw (.inl h0))
   exact ⟨this.1, fun y hy => fin _ (this.2 y hy)⟩
  refine ⟨⟨hr.gate kn, fun hne => ?_⟩, fun o ho y hy => (hback o ho).2 y hy⟩
  obtain ⟨o, ho⟩ := List.exists_mem_of_ne_nil _ hne
  exact (hback o ho).1
 have seen : ∀ x, Mg p (Iy (nd ++ g)) h st x -> BR vis x = true \/ x.elem ∈ st.map (·.elem) := by
  intro x hx
  induction hx with
  | init h1 h2 => exact fin _ (hk.init _ _ h1 h2)
  | step hx h1 h2 h3 h4 ih =>
   exact (main _ hx (ih.resolve_right h1) h1 h2).2 _ h3 _ h4
 exact fun x hx h1 h2 => (main x hx ((seen x hx).resolve_right h1) h1 h2).1
end
end Go.E
/- Plain Lean: whether a road is guarded: the program's answer and the document's are one. No condition. -/
namespace Go.E
open Go
def Zq (p : AH) (m : AM) : Prop := AY p m.elem = 2 /\ (m.pos = 1 \/ m.pos = 2)
instance (p : AH) (m : AM) : Decidable (Zq p m) := by unfold Zq; infer_instance
section
variable {p : AH} {n : CF} {r : AO}
end
end Go.E
/- Plain Lean: whether a road is guarded, by the program and by the document (law ProofGuards); what is guarded keeps (law ProofKeeps). No condition. -/
namespace Go.E
open Go
section
variable {p : AH} {n : CF} {r : AO}
end
end Go.E
/- Plain Lean: what is wrong first with a chart of a valid plan: the program's answer and the document's are one (checkF). No condition. -/
namespace Go.E
open Go
section
variable {p : AH} {n : CF}
theorem WA (hv : B8 p) {a b : AO} (ha : T6 p a = true) (hb : T6 p b = true) (h : a.steps = b.steps) : a.frm = b.frm := by
 obtain ⟨s1, n1, l1, a1, a2, a3, a4, a5, a6, a7⟩ := Hr ha
 obtain ⟨s2, n2, l2, b1, b2, b3, b4, b5, b6, b7⟩ := Hr hb
 have key : ∀ (sg : A9) (st : List Ao) (nd : List AM), 1 <= st.length -> CQ p sg.at_.elem (Ap p sg.at_) [] [] st = some nd -> ∃ q, st.head? = some q /\ Ap p sg.at_ = some ⟨q.elem, q.in_⟩ := fun sg st nd hl hs => by
  cases st with
  | nil => simp at hl
  | cons q r =>
   cases hx : Ap p sg.at_ with
   | none => rw [hx] at hs; simp [CQ] at hs
   | some x =>
    rw [hx] at hs
    unfold CQ at hs
    split at hs
    .cases hs
    rename_i c
    have e1 : q.elem = x.elem := Decidable.byContradiction fun h => c (.inl h)
    have e2 : q.in_ = x.fin := Decidable.byContradiction fun h => c (.inr (.inl h))
    exact ⟨q, rfl, by rw [e1, e2]⟩
 obtain ⟨q1, c1, c2⟩ := key s1 a.steps n1 a2 a4
 obtain ⟨q2, d1, d2⟩ := key s2 b.steps n2 b2 b4
 rw [h] at c1
 rw [c1] at d1
 cases d1
 have e1 := Q6 hv.join c2
 have e2 := Q6 hv.join d2
 rw [e1] at e2
 have e3 : s1.at_ = s2.at_ := by injection e2
 obtain ⟨f1, f2⟩ := WB a1
 obtain ⟨g1, g2⟩ := WB b1
 have r1 := hv.sig.reads _ _ f1
 have r2 := hv.sig.reads _ _ g1
 rw [e3, r2] at r1
 rw [f2, g2]; omega
end
end Go.E
/- Plain Lean: the chart of a valid plan with one thing of one road turned (law ProofTurned). No condition. -/
namespace Go.E
open Go
section
variable {p : AH} {n : CF}
theorem U8 (h : GZ p = some true) : Dp p = some 0 := by
 unfold GZ at h
 cases h1 : Ij p with
 | none => rw [h1] at h; cases h
 | some b =>
  rw [h1] at h
  cases b with
  | false => cases h
  | true =>
   cases h2 : Dp p with
   | none => rw [h2] at h; cases h
   | some e =>
    rw [h2] at h
    simp only [Option.bind_some, cond_true, Option.some.injEq, beq_iff_eq] at h
    rw [h]
noncomputable def CN (n : CF) (r : AO) : AO := (FR n r).getD r
structure YF (p : AH) (r q : AO) : Prop where
 frm : q.frm = r.frm
 to : q.to = r.to
 fin : q.fin = r.fin
 steps : q.steps = r.steps
 needs : q.needs = r.needs
 zone : T7 p r.steps q.zone
 guards : V4 p r.steps q.guards
 hard : p.hard = true -> q.holds = []
 lg : q.guards.length <= 700
 lh : q.holds.length <= 700
 keep : ∃ vis, KI p r.steps r.needs q.bare vis q.guards q.zone q.holds []
theorem Lv (hv : B8 p) (hn : Ck p n) {r : AO} (h1 : r.steps.length <= 12) (h2 : r.needs.length <= 1000) : FR n r = some (CN n r) /\ YF p r (CN n r) := by
 obtain ⟨g, z, h, b, e1, e2, e3, e4, e5, e6, e7⟩ := Tb hv hn h1 h2
 have hR2 : CN n r = ⟨r.frm, r.to, r.fin, r.steps, r.needs, g, z, h, b⟩ := by unfold CN; rw [e1]; rfl
 refine ⟨by rw [hR2, e1], ?_⟩
 rw [hR2]
 exact ⟨rfl, rfl, rfl, rfl, rfl, e2, e3, e4, e5, e6, e7⟩
theorem XG (hv : B8 p) (hn : Ck p n) {r : AO} (h1 : r.steps.length <= 12) (h2 : r.needs.length <= 1000) : Fz p r = some (CN n r) := by
 obtain ⟨R, R1, R2⟩ := XE hv hn h1 h2
 have hR : CN n r = R := by unfold CN; rw [R2]; rfl
 rw [hR, R1]
theorem Yz {α : Type} (l m : List α) (x y : α) : KO (l ++ x :: m) (l.length : Int) y = l ++ y :: m := by
 show (l ++ x :: m).set (l.length : Int).toNat y = _
 rw [Int.toNat_natCast]
 simp
theorem WC {l : List AO} (f : AO -> AO) {β : Type} {step : Int × List AO -> Option ((Int × List AO) ⊕ β)} {fin : List AO -> β} (hl : l.length <= 1000)
  (h0 : ∀ c, c.length = l.length -> step ((l.length : Int), c) = some (.inr (fin c))) (h1 : ∀ (i : Nat) r c, l[i]? = some r -> c[i]? = some r -> c.length = l.length -> step ((i : Int), c) = some (.inl (((i + 1 : Nat) : Int), KO c (i : Int) (f r)))) : AQ step ((0 : Int), l) = some (fin (l.map f)) := by
 obtain ⟨b, h2, rfl⟩ := B9 (l := l) (step := step) (Post := fun b => b = fin (l.map f)) (fun i c => c = (l.take i).map f ++ l.drop i) (c := l)
  (fun c hc => ⟨fin c, h0 c (by rw [hc]; simp), by rw [hc, List.take_length, List.drop_length, List.append_nil]⟩)
  (fun i r c hr hc => by
   have hi := Ba hr
   have hd : l.drop i = r :: l.drop (i + 1) := by
    obtain ⟨h, e⟩ := List.getElem?_eq_some_iff.1 hr
    rw [List.drop_eq_getElem_cons h, e]
   have hlen : ((l.take i).map f).length = i := by simp; omega
   have hci : c[i]? = some r := by
    rw [hc, hd, List.getElem?_append_right (by omega), hlen]; simp
   refine .inr ⟨KO c (i : Int) (f r), h1 i r c hr hci (by rw [hc]; simp; omega), ?_⟩
   have := Yz ((l.take i).map f) (l.drop (i + 1)) r (f r)
   rw [hlen] at this
   rw [hc, hd, this, List.take_add_one, hr]
   simp)
  (by simp)
 exact h2
theorem WD (hv : B8 p) (hn : Ck p n) (h0 : Dp p = some 0) : ∃ c e, Ds p = some (c, e) /\ (e = 0 -> (C9 p).2 = 0 /\ c = ⟨p, (C9 p).1.map (CN n)⟩) := by
 unfold Ds
 simp only [h0, Option.bind_some, bne_self_eq_false, cond_false, Us hv]
 by_cases c : (C9 p).2 = 0
 .have c' : ((C9 p).2 != 0) = false := by simp [c]
  rw [c']
  simp only [cond_false]
  have hl : (C9 p).1.length <= 64 := by
   unfold C9
   split
   .simp
   simp only; omega
  refine ⟨_, 0, ?_, fun _ => ⟨c, rfl⟩⟩
  exact WC (l := (C9 p).1) (CN n) (step := Ey p) (fin := fun l => ((⟨p, l⟩ : MT), (0 : Int))) (by omega) (fun q hq => by
   have d : decide (((C9 p).1.length : Int) < (q.length : Int)) = false := decide_eq_false (by omega)
   simp only [Ey, d, cond_false]) (fun i r q hr hq hlen => by
   have hi := Ba hr
   obtain ⟨s, hs⟩ := Ss (List.mem_of_getElem? hr)
   have hro := D8 hs
   have f2 := XG hv hn (r := r) (Hs hs) (by have := hro.2.2.2.2.2.2.2.2; omega)
   have d : decide ((i : Int) < (q.length : Int)) = true := decide_eq_true (by omega)
   simp only [Ey, d, cond_true, Ah, hq, Option.bind_some, f2, AT (show i < 1000000000 by omega)])
 have c' : ((C9 p).2 != 0) = true := by simp [c]
 rw [c']
 exact ⟨_, _, rfl, fun h => absurd h c⟩
end
end Go.E
/- Plain Lean: what is built is fine (law ProofBuilt); what a chart without one of its roads lacks, and with one of them twice (law ProofLacks). No condition. -/
namespace Go.E
open Go
section
variable {p : AH} {n : CF}
theorem flank_holds (hv : B8 p) (hn : Ck p n) {r : AO} (h1 : r.steps.length <= 12) (h2 : r.needs.length <= 1000) : ∃ R, FR n r = some R /\ ∀ s ∈ R.holds, 0 <= s /\ s < (p.signals.length : Int) := by
 have hj := hv.nj
 have hp := J3 (p := p) r.steps
 rw [LO hv hn h1 h2]
 exact D0 (step := Bs n r r.steps r.needs p) (Post := fun R => ∀ s ∈ R.holds, 0 <= s /\ s < (p.signals.length : Int))
  (fun k s => FI p r.steps 700 k s.2.1 s.2.2.1 s.2.2.2.1 s.2.2.2.2.1 s.2.2.2.2.2 /\ ∀ q ∈ s.2.2.2.2.1, 0 <= q /\ q < (p.signals.length : Int)) 700 (s := (false, [], [], [], [], (Db p (DI p r.steps)).reverse)) (by
   rintro k ⟨b, vis, g, z, h, l⟩ ⟨hi, hh⟩
   have hm := hi.meas
   have hlg := hi.lg
   have hlh := hi.lh
   have hzl := hi.zok.len
   dsimp only at hm hlg hlh hzl hi hh
   rcases List.eq_nil_or_concat l with rfl | ⟨l', x, rfl⟩
   .left
    exact ⟨_, rfl, hh⟩
   .right
    rw [List.concat_eq_append] at hi hm ⊢
    simp only [List.length_append, List.length_cons, List.length_nil] at hm
    refine ⟨by omega, _, Md hn h1 h2 b vis g z h l' x (by omega) (by omega) (by omega) (by omega), QV hv hi rfl, ?_⟩
    unfold JH
    split
    .exact hh
    split
    .rename_i c
     dsimp only
     split
     .exact hh
     intro q hq
     rcases List.mem_append.1 hq with hq | hq
     .exact hh q hq
     rw [List.mem_singleton.1 hq]
     rcases Nd p x with e | e <;> omega
    split
    .exact hh
    split
    .split
     .exact hh
     split <;> exact hh
    split <;> exact hh) (by
   refine ⟨⟨⟨by simp, by simp, by simp, by simp⟩, ⟨by simp, by simp⟩, fun _ => rfl, fun y hy => ?_, by simp, by simp, ?_⟩, by simp⟩
   .have := List.mem_reverse.1 hy
    obtain ⟨x, hx, rfl⟩ := List.mem_map.1 this
    obtain ⟨y, hy⟩ := IR hx
    rw [hy]
    exact Gi hy
   have h3 : GC p [] <= (B4 p).length := List.length_filter_le _ _
   have h4 : (B4 p).length = 2 * p.joins.length := E7 _
   simp only [Db, List.length_reverse, List.length_map]
   omega)
theorem S4 (hv : B8 p) (hn : Ck p n) {s : Int} {r : AO} (hr : r ∈ EZ p s) (hb : (CN n r).bare = false) : V7 p (CN n r) := by
 have h1 := Hs hr
 have h2 : r.needs.length <= 1000 := by have := (D8 hr).2.2.2.2.2.2.2.2; omega
 obtain ⟨e1, f⟩ := Lv hv hn h1 h2
 obtain ⟨R, e2, hh⟩ := flank_holds hv hn h1 h2
 rw [e1] at e2
 cases e2
 obtain ⟨vis, hk⟩ := f.keep
 rw [hb] at hk
 obtain ⟨hok, hpw⟩ := YB (Sz hr) f.guards
 have hc : Mh (r.needs ++ (CN n r).guards) := U6 hpw
 refine ⟨by rw [f.needs]; exact hc, fun m hm => (f.guards.ok m hm).2, fun e he => ?_, hh, ?_⟩
 .have := J2 (f.zone.rng e he)
  exact ⟨this.1, this.2, by rw [f.steps]; exact (f.zone.own e he).1⟩
 rw [f.needs, f.steps]
 exact U7 hv.join hk hc
theorem Q9 (hv : B8 p) {s s' : Int} {a b : AO} (ha : a ∈ EZ p s) (hb : b ∈ EZ p s') (h : a.steps = b.steps) : a = b /\ s = s' := by
 have fa := D8 ha
 have fb := D8 hb
 have e := WA hv fa.1 fb.1 h
 obtain ⟨s1, n1, l1, a1, a2, a3, a4, a5, a6, a7⟩ := Hr fa.1
 obtain ⟨s2, n2, l2, b1, b2, b3, b4, b5, b6, b7⟩ := Hr fb.1
 rw [e, b1] at a1
 have e1 : s2 = s1 := Option.some.inj a1
 subst e1
 rw [h, b4] at a4
 have e2 : n2 = n1 := Option.some.inj a4
 rw [h, b5] at a5
 have e3 : l2 = l1 := Option.some.inj a5
 subst e3
 have e4 : a.fin = b.fin /\ a.to = b.to := by
  unfold MY at a6 b6
  split at a6
  .rename_i k
   rw [if_pos k] at b6
   simp only [decide_eq_true_eq] at a6 b6
   exact ⟨by rw [a6.1, b6.1], by rw [a6.2, b6.2]⟩
  rename_i k
  rw [if_neg k] at b6
  split at a6
  .rename_i k2
   rw [if_pos k2] at b6
   simp only [decide_eq_true_eq] at a6 b6
   exact ⟨by rw [a6.1, b6.1], by rw [a6.2, b6.2]⟩
  rename_i k2
  rw [if_neg k2] at b6
  simp only [Bool.and_eq_true, decide_eq_true_eq] at a6 b6
  exact ⟨by rw [a6.2.1, b6.2.1], by rw [a6.2.2, b6.2.2]⟩
 refine ⟨W2.2 ⟨e, e4.2, e4.1, h, by rw [a7, b7, e2], by rw [fa.2.2.1, fb.2.2.1], by rw [fa.2.2.2.1, fb.2.2.2.1], by rw [fa.2.2.2.2.1, fb.2.2.2.2.1], by rw [fa.2.2.2.2.2.1, fb.2.2.2.2.2.1]⟩, ?_⟩
 rw [<- fa.2.1, <- fb.2.1, e]
theorem K6 (hv : B8 p) : ∀ i : Nat, (Hh p i).Nodup /\ ∀ r ∈ Hh p i, ∃ s : Nat, s < i /\ r ∈ EZ p (s : Int)
 | 0 => ⟨by simp [Hh], by simp [Hh]⟩
 | i + 1 => by
  obtain ⟨h1, h2⟩ := K6 hv i
  rw [Ng]
  refine ⟨List.nodup_append.2 ⟨h1, Vx _, fun a ha b hb e => ?_⟩, fun r hr => ?_⟩
  .obtain ⟨s, hs, hm⟩ := h2 a ha
   have := (Q9 hv hm hb (by rw [e])).2
   omega
  rcases List.mem_append.1 hr with hr | hr
  .obtain ⟨s, hs, hm⟩ := h2 r hr
   exact ⟨s, by omega, hm⟩
  exact ⟨i, by omega, hr⟩
theorem Y0 {s : Nat} {r : AO} (hs : s < p.signals.length) (hr : r ∈ EZ p (s : Int)) : r ∈ Kc p := by
 unfold Kc Hh
 exact List.mem_flatMap.2 ⟨s, List.mem_range.2 hs, hr⟩
structure Ro (p : AH) (n : CF) (l : List AO) : Prop where
 eq : l = (Kc p).map (CN n)
 len : l.length <= 64
theorem Ro.inj (hv : B8 p) (hn : Ck p n) {l : List AO} (hb : Ro p n l) {i k : Nat} {a b : AO} (ha : l[i]? = some a) (hk : l[k]? = some b) (h : a.steps = b.steps) : i = k := by
 rw [hb.eq, List.getElem?_map] at ha hk
 obtain ⟨x, hx, rfl⟩ := Option.map_eq_some_iff.1 ha
 obtain ⟨y, hy, rfl⟩ := Option.map_eq_some_iff.1 hk
 obtain ⟨s, hs, hm⟩ := (K6 hv p.signals.length).2 x (List.mem_of_getElem? hx)
 obtain ⟨s', hs', hm'⟩ := (K6 hv p.signals.length).2 y (List.mem_of_getElem? hy)
 obtain ⟨_, f⟩ := Lv hv hn (Hs hm) (show x.needs.length <= 1000 by have := (D8 hm).2.2.2.2.2.2.2.2; omega)
 obtain ⟨_, f'⟩ := Lv hv hn (Hs hm') (show y.needs.length <= 1000 by have := (D8 hm').2.2.2.2.2.2.2.2; omega)
 rw [f.steps, f'.steps] at h
 have e := (Q9 hv hm hm' h).1
 subst e
 have hnd := (K6 hv p.signals.length).1
 obtain ⟨h1, h2⟩ := List.getElem?_eq_some_iff.1 hx
 obtain ⟨h3, h4⟩ := List.getElem?_eq_some_iff.1 hy
 exact (List.getElem_inj hnd).1 (h2.trans h4.symm)
theorem Ro.have (hv : B8 p) (hn : Ck p n) {l : List AO} (hb : Ro p n l) {s : Nat} {r : AO} (hs : s < p.signals.length) (hr : r ∈ EZ p (s : Int)) : ∃ q ∈ l, q = CN n r /\ q.steps = r.steps := by
 obtain ⟨_, f⟩ := Lv hv hn (Hs hr) (show r.needs.length <= 1000 by have := (D8 hr).2.2.2.2.2.2.2.2; omega)
 exact ⟨_, by rw [hb.eq]; exact List.mem_map.2 ⟨r, Y0 hs hr, rfl⟩, rfl, f.steps⟩
end
end Go.E
/- Plain Lean: the document's check takes each valid plan. No condition. -/
namespace Go.E
open Go
theorem T9 {α β : Type} {l : List α} {step : Int -> Option (Int ⊕ β)} {b : β} (h0 : step (l.length : Int) = some (.inr b)) (h1 : ∀ (i : Nat) a, l[i]? = some a -> step (i : Int) = some (.inl ((i + 1 : Nat) : Int))) : AQ step 0 = some b := by
 obtain ⟨c, hc, rfl⟩ := Bh (l := l) (step := step) (Post := fun c => c = b) (fun _ _ => True) (fun _ => ⟨b, h0, rfl⟩) (fun i a ha _ => .inr ⟨h1 i a ha, trivial⟩)
 exact hc
theorem S5 (p : AH) (hf : D7 p) (hj : FX p) (l : List Int) (hl : l.length <= 60) (h : Lu p l) : ∃ b, Dt p l = some b /\ b.2 = true /\ b.1.length = l.length := by
 have q2 := hf.joins; have q3 := h.one
 have h0 : ¬ (l.length : Int) = 0 := by omega
 unfold Dt
 simp only [DY, if_neg h0]
 obtain ⟨b, e1, e2⟩ : ∃ b, (if (l.length : Int) = 1 then some ([0], true) else AQ (Bz p l) ((-1), 1)) = some b /\ b.2 = true /\ b.1.length = l.length := by
  by_cases h1 : (l.length : Int) = 1
  .rw [if_pos h1]; exact ⟨_, rfl, rfl, by simp; omega⟩
  rw [if_neg h1]
  obtain ⟨a, b, r, rfl⟩ : ∃ a b r, l = a :: b :: r := by
   match l, h0, h1 with
   | [], h0, _ => simp at h0
   | [a], _, h1 => simp at h1
   | a :: b :: r, _, _ => exact ⟨a, b, r, rfl⟩
  have i0 : Ak (a :: b :: r) 0 = some a := rfl
  have i1 : Ak (a :: b :: r) 1 = some b := rfl
  obtain ⟨hs, hc⟩ := h.chain a b r rfl
  have st : ∀ (o e : Int), 0 <= e -> Bz p (a :: b :: r) (o, e) = some (.inl (if Ft p ⟨a, e⟩ b then e else o, AZ (e - 1))) := by
   intro o e he
   simp only [Bz, he, decide_true, cond_true, i0, i1, Option.bind_some, CL p (show p.joins.length < 1000000 by omega), Nk]
   by_cases hm : Ft p ⟨a, e⟩ b <;> simp [hm]
  have two : AQ (Bz p (a :: b :: r)) ((-1), 1) = AQ (Bz p (a :: b :: r)) (C0 p a b, -1) := by
   rw [CU (st (-1) 1 (by omega)), show AZ (1 - 1) = 0 by decide, CU (st _ 0 (by omega)), show AZ (0 - 1) = -1 by decide]
   rfl
  have hsd : decide (C0 p a b < 0) = false := by simp; omega
  obtain ⟨t, t1, t2⟩ : ∃ t, AQ (Cw p (a :: b :: r)) (C0 p a b, 1, [AZ (1 - C0 p a b)]) = some t /\ t.2 = true /\ t.1.length = (a :: b :: r).length := by
   refine D0 (fun k s => k + 1 <= (a :: b :: r).length /\ s.2.1 = ((k + 1 : Nat) : Int) /\ s.2.2.length = k + 1 /\ ∀ e, (a :: b :: r)[k]? = some e -> IQ p s.1 e ((a :: b :: r).drop (k + 1))) (a :: b :: r).length ?_ ⟨by simp, rfl, by simp, fun e he => by cases he; exact hc⟩
   rintro k ⟨o, i, ins⟩ ⟨hk, hi, hins, hch⟩
   simp only at hi hins hch
   subst hi
   generalize hL : a :: b :: r = L at *
   by_cases he : k + 1 = L.length
   .have : decide (((k + 1 : Nat) : Int) < L.length) = false := by simp; omega
    exact .inl ⟨(ins, true), by simp only [Cw, this, cond_false], rfl, by rw [hins, he]⟩
   have hlt : k + 1 < L.length := by omega
   have hd : decide (((k + 1 : Nat) : Int) < L.length) = true := by simp; omega
   have ha : L[k]? = some (L[k]'(by omega)) := List.getElem?_eq_getElem _
   have hb : L[k + 1]? = some (L[k + 1]'hlt) := List.getElem?_eq_getElem _
   have e1 : AZ (((k + 1 : Nat) : Int) - 1) = (k : Int) := by rw [CR] <;> omega
   have := hch _ ha
   rw [List.drop_eq_getElem_cons hlt] at this
   obtain ⟨y, hn, hy, hrest⟩ := RA this
   obtain ⟨f1, f2, _⟩ := Dh (hj.next hn)
   have e2 : (y.elem != L[k + 1]'hlt) = false := by simp [hy]
   refine .inr ⟨by omega, (1 - y.fin, ((k + 1 + 1 : Nat) : Int), ins ++ [y.fin]), ?_, by omega, rfl, by simp; omega, fun e he' => ?_⟩
   .simp only [Cw, hd, cond_true, e1, Ah, ha, hb, Option.bind_some, CL p (show p.joins.length < 1000000 by omega), hn, Option.isSome_some, Option.getD_some, Bool.not_true, cond_false, e2]
    rw [BP (by simp; omega), AT (show k + 1 < 1000000000 by omega), CR (n := 1 - y.fin) (by omega) (by omega)]; rfl
   rw [hb] at he'; cases he'; exact hrest
  refine ⟨t, ?_, t2⟩
  rw [two, GP]
  simp only [Bz, show decide ((0 : Int) <= -1) = false by decide, cond_false, hsd, t1]
  rfl
 refine ⟨b, T9 (l := l) ?_ (fun i e he => ?_), e2⟩
 .simp only [Dy, B7, cond_false, DY, e1]; rfl
 have := Ba he
 simp only [Dy, Be he, cond_true, Ah, he, Option.bind_some, Da, h.track i e he, bne_self_eq_false, cond_false, AT (show i < 1000000000 by omega)]
end Go.E
/- Plain Lean: the program's check answers of every plan that is not too long; what it takes is valid. No condition. -/
namespace Go.E
open Go
end Go.E
/- Plain Lean: the program and the document say the same of what is wrong first with a chart (ProofChecks). No condition. -/
namespace Go.E
open Go
end Go.E
/- Plain Lean: what a book of locks says, whatever the order in which its maps are gone through. No condition. -/
namespace Go.E
open Go
def QN (m : List (Int × List Int)) (e : Int) : Int := match m.find? (fun p => decide (e ∈ p.2)) with
 | some p => p.1
 | none => -1
def Y1 (m : List (Int × List Int)) (e : Int) : Prop := ∀ p ∈ m, ∀ q ∈ m, e ∈ p.2 -> e ∈ q.2 -> p.1 = q.1
theorem UA {m : List (Int × List Int)} {e : Int} (h : Y1 m e) {q : Int × List Int} (hq : q ∈ m) (he : e ∈ q.2) : QN m e = q.1 := by
 unfold QN
 cases hf : m.find? (fun p => decide (e ∈ p.2)) with
 | none => exact absurd he (by simpa using List.find?_eq_none.1 hf q hq)
 | some p => exact h p (List.mem_of_find?_eq_some hf) q hq (by simpa using List.find?_some hf) he
theorem UB {m : List (Int × List Int)} {e : Int} (h : ∀ p ∈ m, e ∉ p.2) : QN m e = -1 := by
 unfold QN
 cases hf : m.find? (fun p => decide (e ∈ p.2)) with
 | none => rfl
 | some p => exact absurd (by simpa using List.find?_some hf) (h p (List.mem_of_find?_eq_some hf))
theorem Ok (b : AV) (e : Int) (h1 : Y1 b.steps e) (hl : ∀ p ∈ b.steps, p.2.length < 1000000) : Bk b e = some (QN b.steps e) := by
 unfold Bk
 refine Kx (fun s => (∀ p ∈ s, p ∈ b.steps) /\ ∀ p ∈ b.steps, e ∈ p.2 -> p ∈ s) (fun s hs h0 => ?_) (fun s j y hs hy => ?_) ⟨fun p hp => hp, fun p hp _ => hp⟩
 .simp only [Ez]
  rw [UB fun p hp he => by have := hs.2 p hp he; rw [h0] at this; cases this]
 have hmem := hs.1 y (List.mem_of_getElem? hy)
 have hp := IL hy
 simp only [FT, IS y.2 (hl y hmem) e, Option.bind_some]
 by_cases he : e ∈ y.2
 .exact .inl (by rw [decide_eq_true he, UA h1 hmem he]; rfl)
 refine .inr ⟨s.eraseIdx j, by rw [decide_eq_false he]; rfl, rfl, fun p h => hs.1 p (hp.mem_iff.1 (List.mem_cons_of_mem _ h)), fun p h h' => ?_⟩
 rcases List.mem_cons.1 (hp.mem_iff.2 (hs.2 p h h')) with rfl | h2
 .exact absurd h' he
 exact h2
def XH (m : List (Int × List Int)) (e : Int) : List Int := Gv ((m.filter fun p => decide (e ∈ p.2)).map (·.1))
theorem Om (b : AV) (e : Int) (hm : b.zone.length < 1000000) (hl : ∀ p ∈ b.zone, p.2.length < 1000000) : CT b e = some (XH b.zone e) := by
 unfold CT
 refine Kx (fun s => (∀ p ∈ s.2, p ∈ b.zone) /\ (s.1 ++ (s.2.filter fun p => decide (e ∈ p.2)).map (·.1)).Perm ((b.zone.filter fun p => decide (e ∈ p.2)).map (·.1))) (fun s hs h0 => ?_) (fun s j y hs hy => ?_) ⟨fun p hp => hp, by simp⟩
 .obtain ⟨a, r⟩ := s
  simp only at h0 hs
  subst h0
  have hp := hs.2
  simp only [List.filter_nil, List.map_nil, List.append_nil] at hp
  have hlen := hp.length_eq
  have h2 := List.length_filter_le (fun p => decide (e ∈ p.2)) b.zone
  rw [List.length_map] at hlen
  have e1 : IJ a = some (Gv a) := by unfold IJ; rw [if_pos (by omega)]
  simp only [E0, e1, Option.bind_some, Option.map_some, OO hp]
  rfl
 obtain ⟨a, r⟩ := s
 obtain ⟨h1, h2⟩ := hs
 simp only at h1 h2 hy ⊢
 have hmem := h1 y (List.mem_of_getElem? hy)
 have hp := IL hy
 have hlen := h2.length_eq
 have h3 := List.length_filter_le (fun p => decide (e ∈ p.2)) b.zone
 simp only [List.length_append, List.length_map] at hlen
 have hsub : ∀ p ∈ r.eraseIdx j, p ∈ b.zone := fun p h => h1 p (hp.mem_iff.1 (List.mem_cons_of_mem _ h))
 have hpf := ((hp.filter fun p => decide (e ∈ p.2)).map (·.1))
 simp only [FU, IS y.2 (hl y hmem) e, Option.bind_some]
 by_cases he : e ∈ y.2
 .refine .inr ⟨(a ++ [y.1], r.eraseIdx j), ?_, rfl, hsub, ?_⟩
  .rw [decide_eq_true he, BP (by simp; omega)]; rfl
  rw [List.filter_cons_of_pos (by simpa using he)] at hpf
  simp only [List.append_assoc, List.singleton_append]
  exact (List.Perm.append_left a hpf).trans h2
 refine .inr ⟨(a, r.eraseIdx j), by rw [decide_eq_false he]; rfl, rfl, hsub, ?_⟩
 rw [List.filter_cons_of_neg (by simpa using he)] at hpf
 exact (List.Perm.append_left a hpf).trans h2
def Dq (l : List AM) (e : Int) : Option Int := (l.find? fun x => x.elem == e).map (·.pos)
def IV (b : AV) (o : Int) : List AM := (AW b.needs o).getD [] ++ (AW b.guards o).getD []
def Cr (b : AV) (e : Int) (m : List (Int × List AM)) : List Int := m.filterMap fun p => Dq (IV b p.1) e
def Zx (b : AV) (e : Int) : Prop := ∀ x ∈ Cr b e b.needs, ∀ y ∈ Cr b e b.needs, x = y
theorem WE (l : List AM) (e : Int) (hl : l.length < 1000000) {β : Type} {step : Int -> Option (Int ⊕ β)} {no : β} {yes : Int -> β} (h0 : step (l.length : Int) = some (.inr no))
  (h1 : ∀ (i : Nat) x, l[i]? = some x -> step (i : Int) = bif x.elem == e then some (.inr (yes x.pos)) else some (.inl ((i + 1 : Nat) : Int))) : AQ step 0 = some (match Dq l e with | some q => yes q | none => no) := by
 obtain ⟨b, hb, hp⟩ := Bh (l := l) (step := step) (Post := fun b => b = match Dq l e with | some q => yes q | none => no) (fun _ x => x.elem ≠ e) (fun g => ⟨no, h0, by
  have : l.find? (fun x => x.elem == e) = none := List.find?_eq_none.2 fun x hx => by
   obtain ⟨i, hi⟩ := List.mem_iff_getElem?.1 hx
   simpa using g i x hi
  simp only [Dq, this, Option.map_none]⟩) (fun i x hx hg => by
  rw [h1 i x hx]
  by_cases he : x.elem = e
  .refine .inl ⟨yes x.pos, by simp [he], ?_⟩
   have : l.find? (fun x => x.elem == e) = some x := by
    rw [List.find?_eq_some_iff_getElem]
    exact ⟨by simpa using he, i, Ba hx, (List.getElem?_eq_some_iff.1 hx).2, fun j hj => by
     have := hg j _ hj (List.getElem?_eq_getElem (by have := Ba hx; omega))
     simpa using this⟩
   simp only [Dq, this, Option.map_some]
  exact .inr ⟨by rw [beq_eq_false_iff_ne.2 he]; rfl, he⟩)
 rw [hb, hp]
theorem QO (b : AV) (e : Int) (hm : b.needs.length < 1000000) (hl : ∀ p ∈ b.needs, ((AW b.needs p.1).getD []).length < 100000 /\ ((AW b.guards p.1).getD []).length < 100000) (h1 : Zx b e) :
  B3 b e = some ((Cr b e b.needs).headD 0, ((Cr b e b.needs).length : Int)) := by
 have hle := List.length_filterMap_le (fun p : Int × List AM => Dq (IV b p.1) e) b.needs
 unfold B3
 refine Kx (fun s => (∀ p ∈ s.2.2, p ∈ b.needs) /\ 0 <= s.2.1 /\ s.2.1 + ((Cr b e s.2.2).length : Int) = ((Cr b e b.needs).length : Int) /\ (s.2.1 = 0 -> s.1 = 0) /\ (s.2.1 ≠ 0 -> s.1 = (Cr b e b.needs).headD 0)) (fun s hs h0 => ?_) (fun s j y hs hy => ?_) ⟨fun p hp => hp, Int.le_refl _, by simp, fun _ => rfl, fun h => absurd rfl h⟩
 .obtain ⟨x, n, r⟩ := s
  simp only at h0 hs
  subst h0
  obtain ⟨-, a1, a2, a3, a4⟩ := hs
  simp only [Cr, List.filterMap_nil, List.length_nil] at a2
  simp only [FV]
  have e1 : n = ((Cr b e b.needs).length : Int) := by unfold Cr; omega
  have e2 : x = (Cr b e b.needs).headD 0 := by
   by_cases hz : n = 0
   .rw [a3 hz]
    have : Cr b e b.needs = [] := List.length_eq_zero_iff.1 (by omega)
    rw [this]; rfl
   exact a4 hz
  rw [e1, e2]
 obtain ⟨x, n, r⟩ := s
 obtain ⟨h2, a1, a2, a3, a4⟩ := hs
 simp only at h2 a1 a2 a3 a4 hy ⊢
 have hmem := h2 y (List.mem_of_getElem? hy)
 obtain ⟨l1, l2⟩ := hl y hmem
 have hp := IL hy
 have hsub : ∀ p ∈ r.eraseIdx j, p ∈ b.needs := fun p h => h2 p (hp.mem_iff.1 (List.mem_cons_of_mem _ h))
 have hpl := (hp.filterMap fun p : Int × List AM => Dq (IV b p.1) e).length_eq
 have c1 : BM ((AW b.needs y.1).getD []) = some ((AW b.needs y.1).getD []) := D6 _ (by omega)
 have ha : (IV b y.1).length < 1000000 := by unfold IV; rw [List.length_append]; omega
 simp only [F1, c1, Option.bind_some, BP (show ((AW b.needs y.1).getD []).length + ((AW b.guards y.1).getD []).length <= 4294967296 by omega)]
 have hn : n <= (Cr b e b.needs).length := by omega
 have hlt : (Cr b e b.needs).length < 1000000 := by unfold Cr; omega
 have L := WE (IV b y.1) e ha (step := DG e (x, n, r) (r.eraseIdx j) (IV b y.1)) (no := .inl (x, n, r.eraseIdx j)) (yes := fun q => .inl (q, AZ (n + 1), r.eraseIdx j)) (by simp only [DG, B7, cond_false]) (fun i z hz => by
  have := Ba hz
  simp only [DG, Be hz, cond_true, Ah, hz, Option.bind_some, AT (show i < 1000000000 by omega)])
 unfold IV at L
 rw [L]
 cases hf : Dq ((AW b.needs y.1).getD [] ++ (AW b.guards y.1).getD []) e with
 | none =>
  refine .inr ⟨(x, n, r.eraseIdx j), rfl, rfl, hsub, a1, ?_, a3, a4⟩
  rw [List.filterMap_cons_none (by unfold IV; exact hf)] at hpl
  simp only
  unfold Cr at a2 ⊢
  omega
 | some q =>
  have hq : q ∈ Cr b e b.needs := List.mem_filterMap.2 ⟨y, hmem, by unfold IV; exact hf⟩
  have hhd : q = (Cr b e b.needs).headD 0 := by
   cases hh : Cr b e b.needs with
   | nil => rw [hh] at hq; cases hq
   | cons z zs => exact h1 q hq z (by rw [hh]; simp)
  rw [List.filterMap_cons_some (by unfold IV; exact hf), List.length_cons] at hpl
  have hw : AZ (n + 1) = n + 1 := CR (by omega) (by omega)
  refine .inr ⟨(q, AZ (n + 1), r.eraseIdx j), rfl, rfl, hsub, ?_, ?_, fun h => ?_, fun _ => hhd⟩
  .simp only [hw]; omega
  .simp only [hw]; unfold Cr at a2 ⊢; omega
  simp only [hw] at h; omega
end Go.E
/- Plain Lean: of two roads each is taken for itself; which is refused beside the other. No condition. -/
namespace Go.E
open Go
structure C8 (n : Int) (r : AO) : Prop where
 one : 1 <= r.steps.length
 ls : r.steps.length <= 1000
 ln : r.needs.length <= 1000
 lg : r.guards.length <= 1000
 lz : r.zone.length <= 1000
 step : ∀ s ∈ r.steps, 0 <= s.elem /\ s.elem < n
 once : (r.steps.map (·.elem)).Nodup
 zone : ∀ e ∈ r.zone, 0 <= e /\ e < n /\ e ∉ r.steps.map (·.elem)
 need : ∀ x ∈ r.needs ++ r.guards, (0 <= x.elem /\ x.elem < n) /\ (x.pos = 1 \/ x.pos = 2)
 cons : Mh (r.needs ++ r.guards)
theorem VA (b : AV) (e : Int) : DP b e = some (decide (0 <= e) && decide (e < b.elems)) := by
 unfold DP
 cases decide (0 <= e) <;> rfl
theorem XI (b : AV) (r : AO) (h : C8 b.elems r) : Do b r = some true := by
 have h1 := h.one; have h2 := h.ls; have h3 := h.ln; have h4 := h.lg; have h5 := h.lz
 unfold Do
 rw [beq_eq_false_iff_ne.2 (show ((r.steps.length : Int)) ≠ 0 by omega)]
 simp only [cond_false]
 have one4 : ∀ (i : Nat) (l done : List AM) (s : Int × List (Int × Int)), s.1 = (i : Int) -> i <= 2 -> l.length <= 1000 -> (∀ x ∈ done ++ l, (0 <= x.elem /\ x.elem < b.elems) /\ (x.pos = 1 \/ x.pos = 2)) -> Mh (done ++ l) -> (∀ k v, AW s.2 k = some v -> ∃ x ∈ done, x.elem = k /\ x.pos = v) ->
   ∃ c', AQ (Ci b s l) (0, s.2) = some (.inl (((i + 1 : Nat) : Int), c')) /\ ∀ k v, AW c' k = some v -> ∃ x ∈ done ++ l, x.elem = k /\ x.pos = v := by
  intro i l done s hs hi hl hx hc hI
  obtain ⟨t, ht, c', rfl, hc'⟩ : ∃ t, AQ (Ci b s l) (0, s.2) = some t /\ ∃ c', t = .inl (((i + 1 : Nat) : Int), c') /\ ∀ k v, AW c' k = some v -> ∃ x ∈ done ++ l, x.elem = k /\ x.pos = v := by
   refine B9 (l := l) (fun j c => ∀ k v, AW c k = some v -> ∃ x ∈ done ++ l.take j, x.elem = k /\ x.pos = v) (fun c hc' => ?_) (fun j x c hj hc' => ?_) (c := s.2) (fun k v hk => by obtain ⟨x, hx, e⟩ := hI k v hk; exact ⟨x, by simpa using hx, e⟩)
   .rw [List.take_length] at hc'
    exact ⟨_, by simp only [Ci, B7, cond_false, hs, AT (show i < 1000000000 by omega)], c, rfl, hc'⟩
   have hjl := Ba hj
   have hm : x ∈ done ++ l := List.mem_append_right _ (List.mem_of_getElem? hj)
   obtain ⟨⟨x1, x2⟩, x3⟩ := hx x hm
   have hp : ((bif (x.pos != 1) then bif (x.pos != 2) then some true else bif (AW c x.elem).isSome then some (((AW c x.elem).getD 0) != x.pos) else some false else bif (AW c x.elem).isSome then some (((AW c x.elem).getD 0) != x.pos) else some false : Option Bool)) = some false := by
    have hq : ((bif (AW c x.elem).isSome then some (((AW c x.elem).getD 0) != x.pos) else some false : Option Bool)) = some false := by
     cases ha : AW c x.elem with
     | none => rfl
     | some v =>
      obtain ⟨y, hy, y1, y2⟩ := hc' _ _ ha
      have hy' : y ∈ done ++ l := by
       rcases List.mem_append.1 hy with hy | hy
       .exact List.mem_append_left _ hy
       exact List.mem_append_right _ (List.mem_of_mem_take hy)
      have := hc y hy' x hm y1
      simp only [Option.isSome_some, cond_true, Option.getD_some, Option.some.injEq, bne_eq_false_iff_eq]
      omega
    rcases x3 with x3 | x3 <;> simp only [x3] at hq ⊢ <;> exact hq
   refine .inr ⟨Ay x.elem x.pos c, ?_, fun k v hk => ?_⟩
   .simp only [Ci, Be hj, cond_true, Ah, hj, Option.bind_some, VA, decide_eq_true x1, decide_eq_true x2, Bool.and_self, Bool.not_true, cond_false, hp, AT (show j < 1000000000 by omega)]
   rw [Dw] at hk
   rw [List.take_add_one, hj]
   by_cases e : k = x.elem
   .rw [if_pos e] at hk; cases hk
    exact ⟨x, by simp, e.symm, rfl⟩
   rw [if_neg e] at hk
   obtain ⟨y, hy, e2⟩ := hc' k v hk
   exact ⟨y, by rw [<- List.append_assoc]; exact List.mem_append_left _ hy, e2⟩
  exact ⟨c', ht, hc'⟩
 have l3 : AQ (CP b r) (0, []) = some true := by
  obtain ⟨c1, e1, d1⟩ := one4 0 r.needs [] (0, []) rfl (by omega) h3 (fun x hx => h.need x (List.mem_append_left _ (by simpa using hx))) (fun x hx y hy => h.cons x (List.mem_append_left _ (by simpa using hx)) y (List.mem_append_left _ (by simpa using hy))) (fun k v hk => by simp [AW] at hk)
  obtain ⟨c2, e2, d2⟩ := one4 1 r.guards r.needs (1, c1) rfl (by omega) h4 h.need h.cons (fun k v hk => by simpa using d1 k v hk)
  have i0 : Ak ([r.needs, r.guards] : List (List AM)) 0 = some r.needs := rfl
  have i1 : Ak ([r.needs, r.guards] : List (List AM)) 1 = some r.guards := rfl
  have s1 : CP b r (0, []) = some (.inl (1, c1)) := by
   simp only [CP, i0, Option.bind_some]; rw [e1]; rfl
  have s2 : CP b r (1, c1) = some (.inl (2, c2)) := by
   simp only [CP, i1, Option.bind_some]; rw [e2]; rfl
  rw [CU s1, CU s2]
  exact DZ rfl
 obtain ⟨t, ht, rfl⟩ : ∃ t, AQ (C7 b r) (0, []) = some t /\ t = true := by
  refine B9 (l := r.steps) (fun j c => ∀ e, (AW c e).getD false = decide (e ∈ (r.steps.take j).map (·.elem))) (fun c hc => ?_) (fun j s c hj hc => ?_) (c := []) (fun e => by simp [AW])
  .rw [List.take_length] at hc
   refine ⟨true, ?_, rfl⟩
   have l2 : AQ (C6 b r ((r.steps.length : Int), c)) 0 = some true := T9 (l := r.zone) (by simp only [C6, B7, cond_false, l3]; rfl) (fun i e he => by
    have := Ba he
    obtain ⟨z1, z2, z3⟩ := h.zone e (List.mem_of_getElem? he)
    simp only [C6, Be he, cond_true, Ah, he, Option.bind_some, VA, decide_eq_true z1, decide_eq_true z2, Bool.and_self, Bool.not_true, cond_false, hc, decide_eq_false z3, AT (show i < 1000000000 by omega)])
   simp only [C7, B7, cond_false, l2]; rfl
  have := Ba hj
  obtain ⟨s1, s2⟩ := h.step s (List.mem_of_getElem? hj)
  have hnew : s.elem ∉ (r.steps.take j).map (·.elem) := by
   intro hm
   obtain ⟨x, hx, hxe⟩ := List.mem_map.1 hm
   obtain ⟨i, hi, hie⟩ := MU hx
   have a1 : (r.steps.map (·.elem))[i]? = some s.elem := by rw [List.getElem?_map, hie]; simp [hxe]
   have a2 : (r.steps.map (·.elem))[j]? = some s.elem := by rw [List.getElem?_map, hj]; rfl
   have := (List.getElem?_inj (Ba a1) h.once).1 (a1.trans a2.symm)
   omega
  refine .inr ⟨Ay s.elem true c, ?_, fun e => ?_⟩
  .simp only [C7, Be hj, cond_true, Ah, hj, Option.bind_some, VA, decide_eq_true s1, decide_eq_true s2, Bool.and_self, Bool.not_true, cond_false, hc, decide_eq_false hnew, AT (show j < 1000000000 by omega)]
  rw [Dw, EF hj]
  by_cases he : e = s.elem
  .simp [he]
  rw [if_neg he, hc]; simp only [List.mem_append, List.mem_singleton, he, or_false]
 exact ht
end Go.E
/- Plain Lean: what may be taken from a book of none, and beside one road (May, Take). No condition. -/
namespace Go.E
open Go
theorem Iz {α β : Type} {l : List α} {step : Int -> Option (Int ⊕ β)} (bad : α -> Bool) (x : β) (fin : Option β) (h0 : step (l.length : Int) = fin.map .inr)
  (h1 : ∀ (i : Nat) a, l[i]? = some a -> step (i : Int) = bif bad a then some (.inr x) else some (.inl ((i + 1 : Nat) : Int))) : AQ step 0 = if l.any bad = true then some x else fin := by
 refine Jc (γ := Unit) l (fun i _ => (i : Int)) (fun _ _ r => if r.any bad = true then some x else fin) (fun _ => ?_) (fun i _ a r ha hi => ?_) ()
 .rw [h0]; simp
 cases hb : bad a with
 | true => left; rw [h1 i a ha, hb]; simp [hb]
 | false => right; exact ⟨(), by rw [h1 i a ha, hb]; rfl, by simp [hb]⟩
def Mi (ow : Int -> Int) (zo : Int -> List Int) (po : Int -> Int) (r : AO) : Int :=
 if (r.steps.any fun s => decide (0 <= ow s.elem) || decide (0 < ((zo s.elem).length : Int))) = true then 14 else if (r.zone.any fun e => decide (0 <= ow e)) = true then 14 else
  if (r.needs.any fun x => (po x.elem != 0) && (po x.elem != x.pos)) = true then 15 else if (r.guards.any fun x => (po x.elem != 0) && (po x.elem != x.pos)) = true then 15 else 0
theorem WF (b : AV) (o : Int) (r : AO) (hr : C8 b.elems r) (ho : 0 <= o) (hh : CC b o = some false) {ow : Int -> Int} {zo : Int -> List Int} {po : Int -> Int}
  (hO : ∀ e, Bk b e = some (ow e)) (hZ : ∀ e, CT b e = some (zo e)) (hH : ∀ e, ∃ k, B3 b e = some (po e, k)) : B1 b o r = some (Mi ow zo po r) := by
 have h2 := hr.ls; have h3 := hr.ln; have h4 := hr.lg; have h5 := hr.lz
 unfold B1
 simp only [decide_eq_false (show ¬ o < 0 by omega), cond_false, hh, Option.bind_some, XI b r hr, Bool.not_true]
 have l4 : ∀ (l : List AM) (i : Nat), l.length <= 1000 -> i <= 2 -> AQ (Cc b (i : Int) l) 0 = if (l.any fun x => (po x.elem != 0) && (po x.elem != x.pos)) = true then some (.inr 15) else some (.inl ((i + 1 : Nat) : Int)) := by
  intro l i hl hi
  refine Iz (l := l) _ _ _ (by simp only [Cc, B7, cond_false, AT (show i < 1000000000 by omega)]; rfl) (fun j x hx => ?_)
  have := Ba hx
  obtain ⟨k, hk⟩ := hH x.elem
  simp only [Cc, Be hx, cond_true, Ah, hx, Option.bind_some, hk, AT (show j < 1000000000 by omega)]
  cases (po x.elem != 0) <;> rfl
 have i0 : Ak ([r.needs, r.guards] : List (List AM)) 0 = some r.needs := rfl
 have i1 : Ak ([r.needs, r.guards] : List (List AM)) 1 = some r.guards := rfl
 have s0 : CD b r 0 = AQ (Cc b ((0 : Nat) : Int) r.needs) 0 := by
  simp only [CD, i0, Option.bind_some]; rfl
 have s1 : CD b r 1 = AQ (Cc b ((1 : Nat) : Int) r.guards) 0 := by
  simp only [CD, i1, Option.bind_some]; rfl
 have l3 : AQ (CD b r) 0 = some (if (r.needs.any fun x => (po x.elem != 0) && (po x.elem != x.pos)) = true then 15 else if (r.guards.any fun x => (po x.elem != 0) && (po x.elem != x.pos)) = true then 15 else 0) := by
  rw [l4 _ 0 h3 (by omega)] at s0
  rw [l4 _ 1 h4 (by omega)] at s1
  by_cases c : (r.needs.any fun x => (po x.elem != 0) && (po x.elem != x.pos)) = true
  .rw [if_pos c] at s0 ⊢
   exact DZ s0
  rw [if_neg c] at s0 ⊢
  rw [CU s0]
  show AQ (CD b r) 1 = _
  by_cases c2 : (r.guards.any fun x => (po x.elem != 0) && (po x.elem != x.pos)) = true
  .rw [if_pos c2] at s1 ⊢
   exact DZ s1
  rw [if_neg c2] at s1 ⊢
  rw [CU s1]
  exact DZ rfl
 have l2 := Iz (l := r.zone) (step := Cy b r) (fun e => decide (0 <= ow e)) 14 (AQ (CD b r) 0) (by simp only [Cy, B7, cond_false]) (fun i e he => by
  have := Ba he
  simp only [Cy, Be he, cond_true, Ah, he, Option.bind_some, hO, AT (show i < 1000000000 by omega)])
 have l1 := Iz (l := r.steps) (step := DX b r) (fun s => decide (0 <= ow s.elem) || decide (0 < ((zo s.elem).length : Int))) 14 (AQ (Cy b r) 0) (by simp only [DX, B7, cond_false]) (fun i s hs => by
  have := Ba hs
  simp only [DX, Be hs, cond_true, Ah, hs, Option.bind_some, hO, hZ, AT (show i < 1000000000 by omega)]
  cases decide (0 <= ow s.elem) <;> rfl)
 rw [l1, l2, l3]
 unfold Mi
 repeat' split
 all_goals rfl
theorem YG (b : AV) (o : Int) (r : AO) {e : Int} (h : B1 b o r = some e) (he : e ≠ 0) : BG b o r = some (b, e) := by
 have he' : (e != 0) = true := bne_iff_ne.2 he
 unfold BG
 rw [h]
 simp only [Option.bind_some, he', cond_true]
theorem Ol (b : AV) (o : Int) (r : AO) (hr : C8 b.elems r) (h : B1 b o r = some 0) :
  BG b o r = some (⟨b.elems, Ay o (r.steps.map (·.elem)) b.steps, Ay o r.zone b.zone, Ay o r.needs b.needs, Ay o r.guards b.guards⟩, 0) := by
 have h2 := hr.ls; have h3 := hr.ln; have h4 := hr.lg; have h5 := hr.lz
 unfold BG
 rw [h]
 simp only [Option.bind_some, bne_self_eq_false, cond_false]
 obtain ⟨t, ht, rfl⟩ := B9 (l := r.steps) (step := DH b o r) (Post := fun t => t = (⟨b.elems, Ay o (r.steps.map (·.elem)) b.steps, Ay o r.zone b.zone, Ay o r.needs b.needs, Ay o r.guards b.guards⟩, 0)) (fun i c => c = (r.steps.take i).map (·.elem)) (fun c hc => by
   rw [List.take_length] at hc
   subst hc
   have c1 : CB r.zone = some r.zone := D6 _ (by omega)
   have c2 : BM r.needs = some r.needs := D6 _ (by omega)
   have c3 : BM r.guards = some r.guards := D6 _ (by omega)
   exact ⟨_, by simp only [DH, B7, cond_false, c1, c2, c3, Option.bind_some, Option.map_some], rfl⟩) (fun i a c ha hc => by
   subst hc
   have := Ba ha
   refine .inr ⟨_, ?_, (EF ha).symm⟩
   simp only [DH, Be ha, cond_true, Ah, ha, Option.bind_some, BP (l := (r.steps.take i).map (·.elem)) (m := [a.elem]) (by simp; omega), AT (show i < 1000000000 by omega)]) (c := []) rfl
 exact ht
def N8 (n : Int) : AV := ⟨n, [], [], [], []⟩
def Cq (n a : Int) (r : AO) : AV := ⟨n, [(a, r.steps.map (·.elem))], [(a, r.zone)], [(a, r.needs)], [(a, r.guards)]⟩
def Gh (a c : AO) : Int := Mi (fun e => if e ∈ a.steps.map (·.elem) then 0 else -1) (fun e => if e ∈ a.zone then [0] else []) (fun e => (Dq (a.needs ++ a.guards) e).getD 0) c
theorem Uq (n o : Int) (r : AO) (hr : C8 n r) (ho : 0 <= o) : BG (N8 n) o r = some (Cq n o r, 0) := by
 have h := WF (N8 n) o r hr ho rfl (ow := fun _ => -1) (zo := fun _ => []) (po := fun _ => 0)
  (fun e => by rw [Ok _ _ (fun p hp => by cases hp) (fun p hp => by cases hp)]; rfl)
  (fun e => by rw [Om _ _ (by simp [N8]) (fun p hp => by cases hp)]; rfl)
  (fun e => ⟨0, by rw [QO _ _ (by simp [N8]) (fun p hp => by cases hp) (fun x hx => by cases hx)]; rfl⟩)
 have h0 : Mi (fun _ => -1) (fun _ => []) (fun _ => 0) r = 0 := by
  unfold Mi
  simp
 rw [h0] at h
 rw [Ol (N8 n) o r hr h]
 rfl
theorem YH {ow ow' : Int -> Int} {zo zo' : Int -> List Int} {po : Int -> Int} (r : AO) (h1 : ∀ e, (0 <= ow e ↔ 0 <= ow' e)) (h2 : ∀ e, (zo e).length = (zo' e).length) : Mi ow zo po r = Mi ow' zo' po r := by
 unfold Mi
 have e1 : ∀ e, decide (0 <= ow e) = decide (0 <= ow' e) := fun e => decide_eq_decide.2 (h1 e)
 simp only [e1, h2]
theorem Ww (n o q : Int) (a c : AO) (ha : C8 n a) (hc : C8 n c) (ho : 0 <= o) (hq : 0 <= q) (hne : q ≠ o) : B1 (Cq n o a) q c = some (Gh a c) := by
 have hN : Cr (Cq n o a) = fun e m => m.filterMap fun p => Dq (IV (Cq n o a) p.1) e := rfl
 have hall : IV (Cq n o a) o = a.needs ++ a.guards := by simp [IV, Cq, AW]
 have h := WF (Cq n o a) q c hc hq (by
   have : (q == o) = false := beq_eq_false_iff_ne.2 hne
   unfold CC
   simp only [Cq, AW, this, Bool.false_eq_true, if_false, Option.getD_none]
   rfl) (ow := fun e => if e ∈ a.steps.map (·.elem) then o else -1) (zo := fun e => if e ∈ a.zone then [o] else []) (po := fun e => (Dq (a.needs ++ a.guards) e).getD 0)
  (fun e => by
   rw [Ok _ _ (fun p hp p' hp' _ _ => by simp [Cq] at hp hp'; rw [hp, hp']) (fun p hp => by simp [Cq] at hp; subst hp; have := ha.ls; simp; omega)]
   by_cases he : e ∈ a.steps.map (·.elem)
   .simp only [if_pos he]
    rw [UA (q := (o, a.steps.map (·.elem))) (fun p hp p' hp' _ _ => by simp [Cq] at hp hp'; rw [hp, hp']) (by simp [Cq]) he]
   simp only [if_neg he]
   rw [UB fun p hp => by simp only [Cq, List.mem_singleton] at hp; subst hp; exact he])
  (fun e => by
   rw [Om _ _ (by simp [Cq]) (fun p hp => by simp [Cq] at hp; subst hp; have := ha.lz; simp; omega)]
   by_cases he : e ∈ a.zone
   .simp only [if_pos he, XH, Cq, List.filter_cons, decide_eq_true he]; rfl
   simp only [if_neg he, XH, Cq, List.filter_cons, decide_eq_false he]; rfl)
  (fun e => by
   have hL : Cr (Cq n o a) e (Cq n o a).needs = (Dq (a.needs ++ a.guards) e).toList := by
    show [(o, a.needs)].filterMap _ = _
    simp only [List.filterMap_cons, List.filterMap_nil, hall]
    cases Dq (a.needs ++ a.guards) e <;> rfl
   refine ⟨((Dq (a.needs ++ a.guards) e).toList.length : Int), (QO _ _ (by simp [Cq]) (fun p hp => ?_) (fun x hx y hy => ?_)).trans ?_⟩
   .simp only [Cq, List.mem_singleton] at hp
    subst hp
    have := ha.ln; have := ha.lg
    simp [Cq, AW]; omega
   .rw [hL] at hx hy
    cases hf : Dq (a.needs ++ a.guards) e with
    | none => rw [hf] at hx; cases hx
    | some v => rw [hf] at hx hy; simp at hx hy; rw [hx, hy]
   rw [hL]
   cases Dq (a.needs ++ a.guards) e <;> rfl)
 rw [YH (ow' := fun e => if e ∈ a.steps.map (·.elem) then 0 else -1) (zo' := fun e => if e ∈ a.zone then [0] else []) c (fun e => by split <;> omega) (fun e => by split <;> rfl)] at h
 exact h
theorem Xf (n o q : Int) (a c : AO) (ha : C8 n a) (hc : C8 n c) (ho : 0 <= o) (hq : 0 <= q) (hne : q ≠ o) : ∃ b, BG (Cq n o a) q c = some (b, Gh a c) := by
 have h := Ww n o q a c ha hc ho hq hne
 by_cases h0 : Gh a c = 0
 .have h' : B1 (Cq n o a) q c = some 0 := by rw [h]; exact congrArg some h0
  exact ⟨_, by rw [Ol (Cq n o a) q c hc h', h0]⟩
 exact ⟨_, YG _ _ _ h h0⟩
end Go.E
/- Plain Lean: which of two roads is refused beside the other, as the book and as the document say; LockClash. No condition. -/
namespace Go.E
open Go
def I2 (a c : AO) : Prop := (∃ s ∈ c.steps, s.elem ∈ a.steps.map (·.elem) \/ s.elem ∈ a.zone) \/ ∃ e ∈ c.zone, e ∈ a.steps.map (·.elem)
def Kf (a c : AO) : Prop := ∃ x ∈ c.needs ++ c.guards, ∃ y ∈ a.needs ++ a.guards, y.elem = x.elem /\ y.pos ≠ x.pos
theorem I2.symm {a c : AO} (h : I2 a c) : I2 c a := by
 rcases h with ⟨s, hs, h | h⟩ | ⟨e, he, h⟩
 .obtain ⟨t, ht, e⟩ := List.mem_map.1 h
  exact .inl ⟨t, ht, .inl (e ▸ List.mem_map_of_mem hs)⟩
 .exact .inr ⟨s.elem, h, List.mem_map_of_mem hs⟩
 obtain ⟨t, ht, e2⟩ := List.mem_map.1 h
 exact .inl ⟨t, ht, .inr (e2 ▸ he)⟩
theorem Kf.symm {a c : AO} (h : Kf a c) : Kf c a := by
 obtain ⟨x, hx, y, hy, e1, e2⟩ := h
 exact ⟨y, hy, x, hx, e1.symm, fun e => e2 e.symm⟩
theorem RB {l : List AM} {e v : Int} (h : Dq l e = some v) : ∃ y ∈ l, y.elem = e /\ y.pos = v := by
 unfold Dq at h
 obtain ⟨y, hy, rfl⟩ := Option.map_eq_some_iff.1 h
 exact ⟨y, List.mem_of_find?_eq_some hy, by simpa using List.find?_some hy, rfl⟩
theorem WG {l : List AM} {e : Int} (h : Dq l e = none) : ∀ y ∈ l, y.elem ≠ e := by
 unfold Dq at h
 intro y hy he
 have := List.find?_eq_none.1 (Option.map_eq_none_iff.1 h) y hy
 simp [he] at this
theorem Td {a c : AO} : ((c.steps.any fun s => decide (0 <= (if s.elem ∈ a.steps.map (·.elem) then (0 : Int) else -1)) || decide (0 < (((if s.elem ∈ a.zone then [(0 : Int)] else []) : List Int).length : Int))) = true \/ (c.zone.any fun e => decide (0 <= (if e ∈ a.steps.map (·.elem) then (0 : Int) else -1))) = true) ↔ I2 a c := by
 have o : ∀ e, (0 <= (if e ∈ a.steps.map (·.elem) then (0 : Int) else -1)) ↔ e ∈ a.steps.map (·.elem) := fun e => by
  by_cases h : e ∈ a.steps.map (·.elem)
  .rw [if_pos h]; exact ⟨fun _ => h, fun _ => Int.le_refl 0⟩
  rw [if_neg h]; exact ⟨fun h' => absurd h' (by decide), fun h' => absurd h' h⟩
 have z : ∀ e, (0 < (((if e ∈ a.zone then [(0 : Int)] else []) : List Int).length : Int)) ↔ e ∈ a.zone := fun e => by
  by_cases h : e ∈ a.zone
  .rw [if_pos h]; exact ⟨fun _ => h, fun _ => by decide⟩
  rw [if_neg h]; exact ⟨fun h' => absurd h' (by decide), fun h' => absurd h' h⟩
 simp only [List.any_eq_true, Bool.or_eq_true, decide_eq_true_eq, o, z]
 exact Iff.rfl
theorem RC {n : Int} {a : AO} (ha : C8 n a) (l : List AM) : (l.any fun x => (((Dq (a.needs ++ a.guards) x.elem).getD 0) != 0) && (((Dq (a.needs ++ a.guards) x.elem).getD 0) != x.pos)) = true ↔ ∃ x ∈ l, ∃ y ∈ a.needs ++ a.guards, y.elem = x.elem /\ y.pos ≠ x.pos := by
 rw [List.any_eq_true]
 constructor
 .rintro ⟨x, hx, h⟩
  cases hf : Dq (a.needs ++ a.guards) x.elem with
  | none => rw [hf] at h; simp at h
  | some v =>
   rw [hf] at h
   obtain ⟨y, hy, e1, e2⟩ := RB hf
   simp only [Option.getD_some, Bool.and_eq_true, bne_iff_ne] at h
   exact ⟨x, hx, y, hy, e1, by rw [e2]; exact h.2⟩
 rintro ⟨x, hx, y, hy, e1, e2⟩
 refine ⟨x, hx, ?_⟩
 cases hf : Dq (a.needs ++ a.guards) x.elem with
 | none => exact absurd e1 (WG hf y hy)
 | some v =>
  obtain ⟨z, hz, f1, f2⟩ := RB hf
  have e3 := ha.cons z hz y hy (f1.trans e1.symm)
  have e4 := (ha.need z hz).2
  simp only [Option.getD_some, Bool.and_eq_true, bne_iff_ne]
  omega
theorem Nr {n : Int} {a c : AO} (ha : C8 n a) : (I2 a c -> Gh a c = 14) /\ (¬ I2 a c -> Kf a c -> Gh a c = 15) /\ (¬ I2 a c -> ¬ Kf a c -> Gh a c = 0) := by
 have hM := @Td a c
 have h1 := RC ha c.needs
 have h2 := RC ha c.guards
 have hA : Kf a c ↔ (∃ x ∈ c.needs, ∃ y ∈ a.needs ++ a.guards, y.elem = x.elem /\ y.pos ≠ x.pos) \/ ∃ x ∈ c.guards, ∃ y ∈ a.needs ++ a.guards, y.elem = x.elem /\ y.pos ≠ x.pos := by
  unfold Kf
  constructor
  .rintro ⟨x, hx, h⟩
   rcases List.mem_append.1 hx with hx | hx
   .exact .inl ⟨x, hx, h⟩
   exact .inr ⟨x, hx, h⟩
  rintro (⟨x, hx, h⟩ | ⟨x, hx, h⟩)
  .exact ⟨x, List.mem_append_left _ hx, h⟩
  exact ⟨x, List.mem_append_right _ hx, h⟩
 rw [<- hM, hA, <- h1, <- h2]
 unfold Gh Mi
 refine ⟨fun h => ?_, fun h h' => ?_, fun h h' => ?_⟩
 .rcases h with h | h
  .rw [if_pos h]
  split
  .rfl
  first | rfl | rw [if_pos h]
 .rw [not_or] at h
  rw [if_neg h.1, if_neg h.2]
  rcases h' with h' | h'
  .rw [if_pos h']
  split
  .rfl
  first | rfl | rw [if_pos h']
 rw [not_or] at h h'
 rw [if_neg h.1, if_neg h.2, if_neg h'.1, if_neg h'.2]
theorem VB {n : Int} {a c : AO} (ha : C8 n a) (hc : C8 n c) : Gh a c = Gh c a := by
 obtain ⟨a1, a2, a3⟩ := Nr (c := c) ha
 obtain ⟨c1, c2, c3⟩ := Nr (c := a) hc
 by_cases hM : I2 a c
 .rw [a1 hM, c1 hM.symm]
 have hM' : ¬ I2 c a := fun h => hM h.symm
 by_cases hA : Kf a c
 .rw [a2 hM hA, c2 hM' hA.symm]
 rw [a3 hM hA, c3 hM' fun h => hA h.symm]
theorem Ov (x y : List Int) (hx : x.length < 1000000) (hy : y.length < 1000000) : EV x y = some (x.any fun e => decide (e ∈ y)) := by
 unfold EV
 rw [Iz (l := x) (fun e => decide (e ∈ y)) true (some false) (by simp only [Gp, B7, cond_false]; rfl) (fun i e he => by
  have := Ba he
  simp only [Gp, Be he, cond_true, Ah, he, Option.bind_some, Pn y hy, AT (show i < 1000000000 by omega)])]
 cases x.any fun e => decide (e ∈ y) <;> rfl
theorem S7 (x y : List AM) (hx : x.length < 1000000) (hy : y.length < 1000000) : Fk x y = some (x.any fun a => y.any fun b => (a.elem == b.elem) && (a.pos != b.pos)) := by
 unfold Fk
 rw [Iz (l := x) (fun a => y.any fun b => (a.elem == b.elem) && (a.pos != b.pos)) true (some false) (by simp only [FN, B7, cond_false]; rfl) (fun i a ha => by
  have := Ba ha
  simp only [FN, Be ha, cond_true]
  rw [Iz (l := y) (fun b => (a.elem == b.elem) && (a.pos != b.pos)) (.inr true) (some (.inl ((i + 1 : Nat) : Int))) (by simp only [FM, B7, cond_false, AT (show i < 1000000000 by omega)]; rfl) (fun k b hb => by
   have := Ba hb
   simp only [FM, Be hb, cond_true, Ah, ha, hb, Option.bind_some, AT (show k < 1000000000 by omega)]
   cases a.elem == b.elem <;> rfl)]
  cases y.any fun b => (a.elem == b.elem) && (a.pos != b.pos) <;> rfl)]
 cases x.any fun a => y.any fun b => (a.elem == b.elem) && (a.pos != b.pos) <;> rfl
theorem Kg (p : AH) (hf : D7 p) (e : Int) : ∃ v, EW p e = some v /\ (0 <= v.1 -> ∃ (i k : Nat) (l : B6), v = ((i : Int), (k : Int)) /\ p.lines[i]? = some l /\ k < l.elems.length) := by
 have q := hf.lines
 unfold EW
 refine Bh (l := p.lines) (fun _ _ => True) (fun _ => ⟨(-1, -1), by simp only [Gq, B7, cond_false], fun h => absurd h (by decide)⟩) (fun i l hl _ => ?_)
 have := Ba hl
 have hle := (hf.line i l hl).1
 simp only [Gq, Be hl, cond_true]
 obtain ⟨t, ht, h⟩ : ∃ t, AQ (Eo p e (i : Int)) 0 = some t /\ (t = .inl ((i + 1 : Nat) : Int) \/ ∃ k : Nat, t = .inr ((i : Int), (k : Int)) /\ k < l.elems.length) := by
  refine Bh (l := l.elems) (fun _ _ => True) (fun _ => ⟨_, by simp only [Eo, Ah, hl, Option.bind_some, B7, cond_false, AT (show i < 1000000000 by omega)], .inl rfl⟩) (fun k f hk _ => ?_)
  have := Ba hk
  simp only [Eo, Ah, hl, Option.bind_some, Be hk, cond_true, hk, AT (show k < 1000000000 by omega)]
  cases f == e with
  | true => exact .inl ⟨_, rfl, .inr ⟨k, rfl, by omega⟩⟩
  | false => exact .inr ⟨rfl, trivial⟩
 rw [ht]
 rcases h with rfl | ⟨k, rfl, hk⟩
 .exact .inr ⟨rfl, trivial⟩
 exact .inl ⟨_, rfl, fun _ => ⟨i, k, l, rfl, hl, hk⟩⟩
theorem Pw (p : AH) (hv : B8 p) (e i : Int) : ∃ v, Hm p e i = some v := by
 obtain ⟨v, h1, h2⟩ := Kg p hv.few e
 unfold Hm
 simp only [h1, Option.bind_some, HK]
 by_cases c : v.1 < 0
 .exact ⟨0, by simp only [decide_eq_true c, cond_true, Option.bind_some]⟩
 obtain ⟨j, k, l, rfl, hl, hk⟩ := h2 (by omega)
 simp only [decide_eq_false c, cond_false, Option.bind_some]
 cases Cj p ⟨e, i⟩ with
 | false => exact ⟨0, rfl⟩
 | true =>
  obtain ⟨b, b1, b2, b3⟩ := S5 p hv.few hv.join l.elems (hv.few.line j l hl).1 (hv.line.line j l hl)
  obtain ⟨x, hx⟩ : ∃ x, b.1[k]? = some x := ⟨_, List.getElem?_eq_getElem (by omega)⟩
  simp only [Bool.not_true, cond_false, Ah, hl, Option.bind_some, b1, hx]
  cases x == i <;> exact ⟨_, rfl⟩
theorem QY (p : AH) (hv : B8 p) (a c : AO) (ha : a.steps.length <= 1000) (hc : c.steps.length <= 1000) : ∃ t, Ep p a c = some t := by
 unfold Ep
 obtain ⟨t, ht, -⟩ := Bh (l := a.steps) (step := Dk p a c) (Post := fun _ => True) (fun _ _ => True) (fun _ => ⟨false, by simp only [Dk, B7, cond_false], trivial⟩) (fun i s hs _ => by
  have := Ba hs
  simp only [Dk, Be hs, cond_true]
  obtain ⟨u, hu, h⟩ : ∃ u, AQ (Dj p a c (i : Int)) 0 = some u /\ (u = .inl ((i + 1 : Nat) : Int) \/ u = .inr true) := by
   refine Bh (l := c.steps) (fun _ _ => True) (fun _ => ⟨_, by simp only [Dj, B7, cond_false, AT (show i < 1000000000 by omega)], .inl rfl⟩) (fun k f hk _ => ?_)
   have := Ba hk
   obtain ⟨v1, e1, -⟩ := Kg p hv.few s.elem
   obtain ⟨v2, e2, -⟩ := Kg p hv.few f.elem
   obtain ⟨w1, e3⟩ := Pw p hv s.elem s.in_
   obtain ⟨w2, e4⟩ := Pw p hv f.elem f.in_
   simp only [Dj, Be hk, cond_true, Ah, hs, hk, Option.bind_some, e1, e2, e3, e4, AT (show k < 1000000000 by omega)]
   cases decide (0 <= v1.1) with
   | false => exact .inr ⟨rfl, trivial⟩
   | true =>
    cases v1.1 == v2.1 with
    | false => exact .inr ⟨rfl, trivial⟩
    | true =>
     cases w1 != w2 with
     | false => exact .inr ⟨rfl, trivial⟩
     | true => exact .inl ⟨_, rfl, .inr rfl⟩
  rw [hu]
  rcases h with rfl | rfl
  .exact .inr ⟨rfl, trivial⟩
  exact .inl ⟨true, rfl, trivial⟩)
 exact ⟨t, ht⟩
theorem S8 (r : AO) (h1 : r.needs.length <= 1000) (h2 : r.guards.length <= 1000) : Hl r = some (r.needs ++ r.guards) := by
 unfold Hl
 rw [BP (by simp; omega)]
 simp only [Option.bind_some, List.nil_append]
 rw [BP (by omega)]
 rfl
theorem Y2 (p : AH) (hv : B8 p) {n : Int} {a c : AO} (ha : C8 n a) (hc : C8 n c) :
  ∃ w, JV p a c = some w /\ (w = 1 \/ (w = 2 \/ w = 3) /\ I2 a c \/ w = 4 /\ ¬ I2 a c /\ Kf a c \/ (w = 0 \/ w = 5) /\ ¬ I2 a c /\ ¬ Kf a c) := by
 have a1 := ha.ls; have a2 := ha.ln; have a3 := ha.lg; have a4 := ha.lz
 have c1 := hc.ls; have c2 := hc.ln; have c3 := hc.lg; have c4 := hc.lz
 unfold JV
 simp only [Nf a (by omega), Nf c (by omega), Option.bind_some, DY]
 by_cases h0 : a.frm = c.frm
 .rw [if_pos h0]; exact ⟨1, rfl, .inl rfl⟩
 rw [if_neg h0]
 simp only [Ov (a.steps.map (·.elem)) (c.steps.map (·.elem)) (by simp; omega) (by simp; omega), Ov (a.steps.map (·.elem)) c.zone (by simp; omega) (by omega), Ov a.zone (c.steps.map (·.elem)) (by omega) (by simp; omega), S8 a a2 a3, S8 c c2 c3,
  S7 (a.needs ++ a.guards) (c.needs ++ c.guards) (by simp; omega) (by simp; omega), Option.bind_some]
 have m1 : ((a.steps.map (·.elem)).any fun e => decide (e ∈ c.steps.map (·.elem))) = true ↔ ∃ e ∈ a.steps.map (·.elem), e ∈ c.steps.map (·.elem) := by simp only [List.any_eq_true, decide_eq_true_eq]
 have m2 : ((a.steps.map (·.elem)).any fun e => decide (e ∈ c.zone)) = true ↔ ∃ e ∈ a.steps.map (·.elem), e ∈ c.zone := by simp only [List.any_eq_true, decide_eq_true_eq]
 have m3 : (a.zone.any fun e => decide (e ∈ c.steps.map (·.elem))) = true ↔ ∃ e ∈ a.zone, e ∈ c.steps.map (·.elem) := by simp only [List.any_eq_true, decide_eq_true_eq]
 have hM : I2 a c ↔ ((∃ e ∈ a.steps.map (·.elem), e ∈ c.steps.map (·.elem)) \/ (∃ e ∈ a.steps.map (·.elem), e ∈ c.zone) \/ ∃ e ∈ a.zone, e ∈ c.steps.map (·.elem)) := by
  constructor
  .rintro (⟨s, hs, h | h⟩ | ⟨e, he, h⟩)
   .exact .inl ⟨_, h, List.mem_map_of_mem hs⟩
   .exact .inr (.inr ⟨_, h, List.mem_map_of_mem hs⟩)
   exact .inr (.inl ⟨e, h, he⟩)
  rintro (⟨e, h, h'⟩ | ⟨e, h, h'⟩ | ⟨e, h, h'⟩)
  .obtain ⟨s, hs, rfl⟩ := List.mem_map.1 h'
   exact .inl ⟨s, hs, .inl h⟩
  .exact .inr ⟨e, h', h⟩
  obtain ⟨s, hs, rfl⟩ := List.mem_map.1 h'
  exact .inl ⟨s, hs, .inr h⟩
 have m4 : ((a.needs ++ a.guards).any fun x => (c.needs ++ c.guards).any fun b => (x.elem == b.elem) && (x.pos != b.pos)) = true ↔ Kf a c := by
  simp only [List.any_eq_true, Bool.and_eq_true, beq_iff_eq, bne_iff_ne]
  constructor
  .rintro ⟨y, hy, x, hx, h⟩; exact ⟨x, hx, y, hy, h⟩
  rintro ⟨x, hx, y, hy, h⟩; exact ⟨y, hy, x, hx, h⟩
 rw [hM, <- m1, <- m2, <- m3, <- m4]
 cases ((a.steps.map (·.elem)).any fun e => decide (e ∈ c.steps.map (·.elem))) with
 | true => exact ⟨2, rfl, .inr (.inl ⟨.inl rfl, .inl rfl⟩)⟩
 | false =>
  cases ((a.steps.map (·.elem)).any fun e => decide (e ∈ c.zone)) with
  | true => exact ⟨3, rfl, .inr (.inl ⟨.inr rfl, .inr (.inl rfl)⟩)⟩
  | false =>
   cases (a.zone.any fun e => decide (e ∈ c.steps.map (·.elem))) with
   | true => exact ⟨3, rfl, .inr (.inl ⟨.inr rfl, .inr (.inr rfl)⟩)⟩
   | false =>
    cases ((a.needs ++ a.guards).any fun x => (c.needs ++ c.guards).any fun b => (x.elem == b.elem) && (x.pos != b.pos)) with
    | true => exact ⟨4, rfl, .inr (.inr (.inl ⟨rfl, by simp, rfl⟩))⟩
    | false =>
     obtain ⟨t, ht⟩ := QY p hv a c a1 c1
     cases t with
     | true => exact ⟨5, by simp only [cond_false, Option.bind_some, ht]; rfl, .inr (.inr (.inr ⟨.inr rfl, by simp, by simp⟩))⟩
     | false => exact ⟨0, by simp only [cond_false, Option.bind_some, ht], .inr (.inr (.inr ⟨.inl rfl, by simp, by simp⟩))⟩
end Go.E
/- Plain Lean: two roads of a plan, each taken first (LockClash). No condition. -/
namespace Go.E
open Go
theorem Px {p : AH} {n : CF} (hv : B8 p) (hn : Ck p n) {r : AO} (hr : r ∈ (C9 p).1) (hb : (CN n r).bare = false) : C8 (p.elems.length : Int) (CN n r) := by
 obtain ⟨s, hs⟩ := Ss hr
 have hro := D8 hs
 have hl := Hs hs
 have hnd : r.needs.length <= 12 := hro.2.2.2.2.2.2.2.2
 have hf := (Lv hv hn hl (show r.needs.length <= 1000 by omega)).2
 have hg := S4 hv hn hs hb
 have hz := hf.zone.len
 have hlg := hf.lg
 have rng : ∀ e, AY p e ≠ 0 -> 0 <= e /\ e < (p.elems.length : Int) := fun e h => J2 h
 have hk : ∀ q ∈ r.steps, AY p q.elem ≠ 0 := fun q hq => U3 hs q hq
 refine ⟨by rw [hf.steps]; exact hro.2.2.2.2.2.2.2.1, by rw [hf.steps]; omega, by rw [hf.needs]; omega, by omega, by omega, fun q hq => rng _ (hk q (hf.steps ▸ hq)), by rw [hf.steps]; exact (V0 hs).2, fun e he => ?_, fun x hx => ?_, hg.cons⟩
 .obtain ⟨z1, z2, z3⟩ := hg.zone e he
  exact ⟨z1, z2, z3⟩
 rcases List.mem_append.1 hx with hx | hx
 .rw [hf.needs] at hx
  obtain ⟨g1, g2, g3⟩ := (Sz hs).ok x hx
  exact ⟨rng _ (by omega), g3⟩
 obtain ⟨g1, g2⟩ := hg.guard x hx
 exact ⟨rng _ (by omega), g2⟩
theorem ZZ {k : Nat} (h : k <= 40) : (if (if (40 : Int) < (k : Int) then (40 : Int) else (k : Int)) > 0 then (if (40 : Int) < (k : Int) then (40 : Int) else (k : Int)) else 0) = (k : Int) := by
 rw [if_neg (show ¬ (40 : Int) < (k : Int) by omega)]
 split <;> omega
theorem XJ (p : AH) : ∃ c e, G8 p = some (c, e) /\ (e = true -> B8 p /\ ∃ n, Ck p n /\ (C9 p).1.length <= 64 /\ c = (C9 p).1.map (CN n)) := by
 unfold G8
 obtain ⟨b0, h1, h2⟩ := Uw p
 simp only [h1, Option.bind_some]
 cases b0 with
 | false => exact ⟨[], false, rfl, by simp⟩
 | true =>
  have hv := h2 rfl
  have hc := U8 h1
  obtain ⟨n, hN, hn⟩ := Yq p hv
  obtain ⟨c, e, e1, e2⟩ := WD hv hn hc
  simp only [Bool.not_true, cond_false, e1, Option.bind_some]
  refine ⟨c.roads, (e == 0), rfl, fun h => ?_⟩
  obtain ⟨e3, rfl⟩ := e2 (by simpa using h)
  have hl : (C9 p).1.length <= 64 := by
   unfold C9
   split
   .simp
   simp only; omega
  exact ⟨hv, n, hn, hl, rfl⟩
theorem QZ (hk : Fx = some true) (p : AH) (i k : Int) (ki : (Lit.int .u8 i).wf = true) (kk : (Lit.int .u8 k).wf = true) : F6 p i k = some true := by
 unfold F6
 simp only [hk, Option.bind_some, Bool.not_true, cond_false]
 obtain ⟨l, e, h1, h2⟩ := XJ p
 simp only [h1, Option.bind_some]
 cases e with
 | false => rfl
 | true =>
  obtain ⟨hv, n, hn, hlen, rfl⟩ := h2 rfl
  have hne := hv.ne
  simp only [Bool.not_true, cond_false, Option.bind_some, List.length_map]
  by_cases c1 : (C9 p).1.length = 0
  .simp [c1]
  have c1' : (((C9 p).1.length : Int) == 0) = false := by simp only [beq_eq_false_iff_ne]; omega
  obtain ⟨u1, u2, u3⟩ := Zo ki
  obtain ⟨v1, v2, v3⟩ := Zo kk
  obtain ⟨j, j1, j2⟩ := S0 (k := (C9 p).1.length) u1 (by omega)
  obtain ⟨m, m1, m2⟩ := S0 (k := (C9 p).1.length) v1 (by omega)
  obtain ⟨ra, ra1⟩ : ∃ r, (C9 p).1[j]? = some r := ⟨_, List.getElem?_eq_getElem j1⟩
  obtain ⟨rc, rc1⟩ : ∃ r, (C9 p).1[m]? = some r := ⟨_, List.getElem?_eq_getElem m1⟩
  have fa : ((C9 p).1.map (CN n))[j]? = some (CN n ra) := by rw [List.getElem?_map, ra1]; rfl
  have fc : ((C9 p).1.map (CN n))[m]? = some (CN n rc) := by rw [List.getElem?_map, rc1]; rfl
  rw [c1', u3, v3, j2, m2]
  simp only [cond_false, Option.bind_some, Ah, fa, fc, ZZ hne]
  by_cases hjm : (j : Int) = (m : Int)
  .simp [hjm]
  have hjm' : ((j : Int) == (m : Int)) = false := beq_eq_false_iff_ne.2 hjm
  rw [hjm']
  simp only [cond_false]
  cases ba : (CN n ra).bare with
  | true => rfl
  | false =>
   cases bc : (CN n rc).bare with
   | true => rfl
   | false =>
    have hA := Px hv hn (List.mem_of_getElem? ra1) ba
    have hC := Px hv hn (List.mem_of_getElem? rc1) bc
    have t0 := Uq (p.elems.length : Int) (j : Int) (CN n ra) hA (by omega)
    have t1 := Uq (p.elems.length : Int) (m : Int) (CN n rc) hC (by omega)
    obtain ⟨b2, t2⟩ := Xf (p.elems.length : Int) (j : Int) (m : Int) (CN n ra) (CN n rc) hA hC (by omega) (by omega) (fun e => hjm e.symm)
    obtain ⟨b3, t3⟩ := Xf (p.elems.length : Int) (m : Int) (j : Int) (CN n rc) (CN n ra) hC hA (by omega) (by omega) hjm
    have t0' : BG ⟨(p.elems.length : Int), [], [], [], []⟩ (j : Int) (CN n ra) = _ := t0
    have t1' : BG ⟨(p.elems.length : Int), [], [], [], []⟩ (m : Int) (CN n rc) = _ := t1
    have hs := VB hA hC
    rw [<- hs] at t3
    obtain ⟨w, hw, hw2⟩ := Y2 p hv hA hC
    obtain ⟨a1, a2, a3⟩ := Nr (c := CN n rc) hA
    simp only [cond_false, Option.bind_some, t0', t1', t2, t3, bne_self_eq_false, hw]
    rcases hw2 with rfl | ⟨rfl | rfl, hM⟩ | ⟨rfl, hM, hG⟩ | ⟨rfl | rfl, hM, hG⟩
    .rfl
    .rw [a1 hM]; rfl
    .rw [a1 hM]; rfl
    .rw [a2 hM hG]; rfl
    .rw [a3 hM hG]; rfl
    rw [a3 hM hG]; rfl
end Go.E
/- Plain Lean: the owners of a book, whatever the order. No condition. -/
namespace Go.E
open Go
def Ns (b : AV) (o : Int) : Bool := decide (0 < AZ ((AZ ((((AW b.steps o).getD []).length : Int) + (((AW b.zone o).getD []).length : Int))) + (((AW b.guards o).getD []).length : Int)))
def Za (b : AV) : List Int := Gv ((b.steps.filter fun p => Ns b p.1).map (·.1))
theorem Vo (b : AV) (hm : b.steps.length < 1000000) : Cz b = some (Za b) := by
 unfold Cz
 refine Kx (fun s => (s.1 ++ (s.2.filter fun p => Ns b p.1).map (·.1)).Perm ((b.steps.filter fun p => Ns b p.1).map (·.1))) (fun s hs h0 => ?_) (fun s j y hs hy => ?_) (by simp)
 .obtain ⟨a, r⟩ := s
  simp only at h0 hs
  subst h0
  have hp := hs
  simp only [List.filter_nil, List.map_nil, List.append_nil] at hp
  have hlen := hp.length_eq
  have h2 := List.length_filter_le (fun p => Ns b p.1) b.steps
  rw [List.length_map] at hlen
  have e1 : IJ a = some (Gv a) := by unfold IJ; rw [if_pos (by omega)]
  simp only [EX, e1, Option.bind_some, Option.map_some, OO hp]
  rfl
 obtain ⟨a, r⟩ := s
 simp only at hs hy ⊢
 have hp := IL hy
 have hlen := hs.length_eq
 have h3 := List.length_filter_le (fun p => Ns b p.1) b.steps
 simp only [List.length_append, List.length_map] at hlen
 have hpf := ((hp.filter fun p => Ns b p.1).map (·.1))
 have hh : CC b y.1 = some (Ns b y.1) := rfl
 simp only [E1, hh, Option.bind_some]
 cases he : Ns b y.1 with
 | true =>
  refine .inr ⟨(a ++ [y.1], r.eraseIdx j), ?_, rfl, ?_⟩
  .rw [BP (by simp; omega)]; rfl
  rw [List.filter_cons_of_pos (by simpa using he)] at hpf
  simp only [List.append_assoc, List.singleton_append]
  exact (List.Perm.append_left a hpf).trans hs
 | false =>
  refine .inr ⟨(a, r.eraseIdx j), rfl, rfl, ?_⟩
  rw [List.filter_cons_of_neg (by simp [he])] at hpf
  exact (List.Perm.append_left a hpf).trans hs
end Go.E
/- The known answers of layer 14. No condition. -/
set_option maxRecDepth 100000
namespace Go.E
open Go Go.Proofs
theorem bs {α β : Type} {o : Option α} {a : α} {f : α -> Option β} {r : β} (h : o = some a) (k : f a = some r) : o.bind f = some r := by rw [h]; exact k
theorem bt {α : Type} {c : Bool} {a b : Option α} {r : α} (h : c = true) (k : a = some r) : (bif c then a else b) = some r := by rw [h]; exact k
theorem bF {α : Type} {c : Bool} {a b : Option α} {r : α} (h : c = false) (k : b = some r) : (bif c then a else b) = some r := by rw [h]; exact k
noncomputable def Rk : AH := H5.getD ⟨[], [], [], [], 0, 0, 0, 0, false⟩
noncomputable def Lo : List AO := match Ds Rk with
 | some c => c.1.roads
 | none => []
noncomputable def kR (i : Nat) : AO := Lo.getD i ⟨0, 0, 0, [], [], [], [], [], false⟩
noncomputable def Pd : AV := Cq 6 1 (kR 1)
noncomputable def Vl : AV := ⟨6, Ay 0 ((kR 0).steps.map (·.elem)) Pd.steps, Ay 0 (kR 0).zone Pd.zone, Ay 0 (kR 0).needs Pd.needs, Ay 0 (kR 0).guards Pd.guards⟩
noncomputable def Tx : AV := match D4 Vl 1 2 with
 | some b => b.1
 | none => Vl
noncomputable def Pe : AV := match Cu Tx 0 with
 | some b => b.1
 | none => Tx
def Vm (n : Int) (r : AO) : Bool := decide (1 <= r.steps.length) && decide (r.steps.length <= 1000) && decide (r.needs.length <= 1000) && decide (r.guards.length <= 1000) && decide (r.zone.length <= 1000) && decide (∀ s ∈ r.steps, 0 <= s.elem /\ s.elem < n) &&
 decide ((r.steps.map (·.elem)).Nodup) && decide (∀ e ∈ r.zone, 0 <= e /\ e < n /\ e ∉ r.steps.map (·.elem)) && decide (∀ x ∈ r.needs ++ r.guards, (0 <= x.elem /\ x.elem < n) /\ (x.pos = 1 \/ x.pos = 2)) && decide (∀ a ∈ r.needs ++ r.guards, ∀ b ∈ r.needs ++ r.guards, a.elem = b.elem -> a.pos = b.pos)
theorem Oj {n : Int} {r : AO} (h : Vm n r = true) : C8 n r := by
 simp only [Vm, Bool.and_eq_true, decide_eq_true_eq] at h
 obtain ⟨⟨⟨⟨⟨⟨⟨⟨⟨h1, h2⟩, h3⟩, h4⟩, h5⟩, h6⟩, h7⟩, h8⟩, h9⟩, h10⟩ := h
 exact ⟨h1, h2, h3, h4, h5, h6, h7, h8, h9, h10⟩
def Yh (m : List (Int × List Int)) (e : Int) : Bool := decide (∀ p ∈ m, ∀ q ∈ m, e ∈ p.2 -> e ∈ q.2 -> p.1 = q.1) && decide (∀ p ∈ m, p.2.length < 1000000)
def XZ (b : AV) (e : Int) : Bool := decide (b.needs.length < 1000000) && decide (∀ p ∈ b.needs, ((AW b.needs p.1).getD []).length < 100000 /\ ((AW b.guards p.1).getD []).length < 100000) && decide (∀ x ∈ Cr b e b.needs, ∀ y ∈ Cr b e b.needs, x = y)
theorem Vn {b : AV} {e v : Int} (h : Yh b.steps e = true) (hv : QN b.steps e = v) : Bk b e = some v := by
 simp only [Yh, Bool.and_eq_true, decide_eq_true_eq] at h
 rw [Ok b e h.1 h.2, hv]
theorem Tz {b : AV} {e : Int} {v : Int × Int} (h : XZ b e = true) (hv : ((Cr b e b.needs).headD 0, ((Cr b e b.needs).length : Int)) = v) : B3 b e = some v := by
 simp only [XZ, Bool.and_eq_true, decide_eq_true_eq] at h
 rw [QO b e h.1.1 h.1.2 h.2, hv]
theorem X2 : Fx = some true := by
 have R0 : C8 6 (kR 0) := Oj (by kernel_rfl)
 have R1 : C8 6 (kR 1) := Oj (by kernel_rfl)
 have R4 : C8 6 (kR 4) := Oj (by kernel_rfl)
 have c4 : Gh (kR 1) (kR 4) = 14 := by kernel_rfl
 have c0 : Gh (kR 1) (kR 0) = 0 := by kernel_rfl
 have t1 : BG (N8 6) 1 (kR 1) = some (Pd, 0) := Uq 6 1 (kR 1) R1 (by decide)
 have m4 : B1 Pd 4 (kR 4) = some 14 := (Ww 6 1 4 (kR 1) (kR 4) R1 R4 (by decide) (by decide) (by decide)).trans (congrArg some c4)
 have m0 : B1 Pd 0 (kR 0) = some 0 := (Ww 6 1 0 (kR 1) (kR 0) R1 R0 (by decide) (by decide) (by decide)).trans (congrArg some c0)
 have t2 : BG Pd 0 (kR 0) = some (Vl, 0) := Ol Pd 0 (kR 0) R0 m0
 have h2 : B3 Vl 2 = some (1, 1) := Tz (by kernel_rfl) (by kernel_rfl)
 have f3 : D4 Vl 1 2 = some (Tx, true) := by kernel_rfl
 have h3 : B3 Tx 2 = some (0, 0) := Tz (by kernel_rfl) (by kernel_rfl)
 have o3 : Bk Tx 3 = some 1 := Vn (by kernel_rfl) (by kernel_rfl)
 have d4 : Cu Tx 0 = some (Pe, true) := by kernel_rfl
 have d5 : Cu Pe 0 = some (Pe, false) := by kernel_rfl
 have os : Cz Pe = some [1] := by rw [Vo Pe (of_decide_eq_true (by kernel_rfl))]; exact congrArg some (by kernel_rfl)
 have o4 : Bk Pe 1 = some (-1) := Vn (by kernel_rfl) (by kernel_rfl)
 have z4 : CT Pe 1 = some [] := by rw [Om Pe 1 (of_decide_eq_true (by kernel_rfl)) (of_decide_eq_true (by kernel_rfl))]; exact congrArg some (by kernel_rfl)
 have hp : H5 = some Rk := by kernel_rfl
 have hb : Ds Rk = some (⟨Rk, Lo⟩, 0) := by kernel_rfl
 have s6 : ((Lo.length : Int) != 6) = false := by kernel_rfl
 have i1 : Ak Lo 1 = some (kR 1) := by kernel_rfl
 have i4 : Ak Lo 4 = some (kR 4) := by kernel_rfl
 have i0 : Ak Lo 0 = some (kR 0) := by kernel_rfl
 have hs : CC Pe 1 = some true := by kernel_rfl
 have sm : HX [1] [1] = some true := by kernel_rfl
 unfold Fx
 refine bs hp <| bs hb <| bs rfl <| bs (a := false) (bF rfl (congrArg some s6)) <| bF rfl <| bs i1 <| bs t1 <| bs i4 <| bs m4 <| bs i0 <| bs t2 <| bs h2 <| bs f3 <| bs h3 <| bs o3 <| bs d4 <| ?_
 refine bs (a := true) ?_ rfl
 refine bt rfl <| bt rfl <| bt rfl <| bt rfl <| bt rfl <| bt rfl <| bt rfl <| bt rfl <| bt rfl <| bt rfl <| bs d5 <| bt rfl <| bs os <| bs sm <| bt rfl <| bs hs <| bt rfl <| bs o4 <| bt rfl <| bs z4 rfl
end Go.E
