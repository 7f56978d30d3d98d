/- Plain Lean: the program's check takes each valid plan. No condition. -/
import Derived.KernelRfl
import Derived.Test.YtilbadmonidmhaaJ4
set_option linter.unusedVariables false
set_option linter.unusedSimpArgs false
namespace Go.E
open Go
theorem Vf {α : Type} {l : List α} {n : Int} {a : α} (h : Aj l n = some a) : l[n.toNat]? = some a /\ n = (n.toNat : Int) := by
 obtain ⟨h1, h2, h3⟩ := IY h
 exact ⟨h3, by omega⟩
theorem MF {α : Type} {l : List α} {k : Nat} {x : α} (h : x ∈ l.take k) : ∃ j, j < k /\ l[j]? = some x := by
 obtain ⟨j, hj⟩ := List.mem_iff_getElem?.1 h
 have := Bh hj
 rw [List.length_take] at this
 rw [List.getElem?_take, if_pos (by omega)] at hj
 exact ⟨j, by omega, hj⟩
theorem Pl (p : AH) (hv : CR p) (m : List (AC × AC)) (hm : ∀ x, AV m x = Ao p x) : Ih p m = some true := by
 have q1 := hv.few.elems; have q3 := hv.few.signals
 have hs := hv.sig
 unfold Ih
 have gates : ∀ s : Int × List (AC × Bool), (∀ x, (AV s.2 x).getD false = decide (x ∈ p.signals.map (·.at_))) -> AQ (Dn p s) 0 = some true := by
  intro s hS
  obtain ⟨b, hb, rfl⟩ := Bu (l := p.elems) (step := Dn p s) (Post := fun b => b = true) (fun _ _ => True) (fun _ => ⟨_, by simp only [Dn, CF, cond_false], rfl⟩) (fun i e he _ => by
   have := Bh he
   refine .inr ⟨?_, trivial⟩
   simp only [Dn, Bl he, cond_true, Ai, he, Option.bind_some, D6, hS, AX (show i < 1000000000 by omega)]
   by_cases hk : e.kind = 4
   .have h0 := hs.gate i e he hk
    have : (⟨(i : Int), 0⟩ : AC) ∈ p.signals.map (·.at_) := by
     rcases I4 ⟨(i : Int), 0⟩ p.signals 0 with ⟨h1, _⟩ | ⟨k, t, h1, h2, _⟩
     .unfold Az at h0; rw [h1] at h0; omega
     exact List.mem_map.2 ⟨t, List.mem_of_getElem? h1, h2⟩
    simp only [if_pos hk, this, decide_true]; rfl
   simp only [if_neg hk]; rfl)
  exact hb
 obtain ⟨b, hb, rfl⟩ := B4 (l := p.signals) (step := Ei p m) (Post := fun b => b = true) (fun i c => ∀ x, (AV c x).getD false = decide (x ∈ (p.signals.take i).map (·.at_))) (fun c hI => by
   rw [List.take_length] at hI
   exact ⟨true, by simp only [Ei, CF, cond_false, gates ((p.signals.length : Int), c) hI]; rfl, rfl⟩) (fun i s c h hI => by
   have := Bh h
   obtain ⟨e, he, hke⟩ := MQ (hs.has i s h)
   obtain ⟨y, hy, hyk⟩ := hs.next i s h
   obtain ⟨e', he', hke'⟩ := MQ (hv.join.next hy)
   have hk : ((bif (e.kind != 1) then some (e.kind != 4) else some false : Option Bool)) = some false := by
    rcases hs.kind i s h with hk | hk <;> rw [hke] at hk <;> simp [hk]
   have hk' : (e'.kind == 4) = false := beq_eq_false_iff_ne.2 (by rw [<- hke']; exact hyk)
   have hnew : ¬ s.at_ ∈ (p.signals.take i).map (·.at_) := by
    intro hx
    obtain ⟨t, ht, hte⟩ := List.mem_map.1 hx
    obtain ⟨j, hj, hjt⟩ := MF ht
    have h1 := hs.reads i s h
    have h2 := hs.reads j t hjt
    rw [hte, h1] at h2
    omega
   refine .inr ⟨Au s.at_ true c, ?_, fun x => ?_⟩
   .simp only [Ei, Bl h, cond_true, Ai, h, Option.bind_some, La, hs.has i s h, hI, hnew, decide_false, he, hk, hm, hy, Option.isSome_some, Option.getD_some, he', hk', Bool.not_true, cond_false, AX (show i < 1000000000 by omega)]
   rw [Cr, List.take_add_one, h]
   simp only [Option.toList_some, List.map_append, List.map_cons, List.map_nil, List.mem_append, List.mem_singleton]
   by_cases hx : x = s.at_
   .simp [hx]
   rw [if_neg hx, hI]; simp only [hx, or_false]) (c := []) (fun x => by simp [AV])
 exact hb
theorem Uj {p : AH} {m : List (AC × AC)} (hm : ∀ x, AV m x = Ao p x) (x : AC) (f : Int) : ((bif (AV m x).isSome then some (((AV m x).getD ⟨0, 0⟩).elem == f) else some false : Option Bool)) = some (decide (HG p x f)) := by
 rw [hm]; exact Qn p x f
theorem Vi {p : AH} : ∀ {r : List Int} {o e : Int} {f : Int}, JT p o e (f :: r) -> ∃ y, Ao p ⟨e, o⟩ = some y /\ y.elem = f /\ JT p (1 - y.fin) f r := fun h => h
theorem TC (p : AH) (hv : CR p) (m : List (AC × AC)) (hm : ∀ x, AV m x = Ao p x) (l : List Int) (hl : NO p l) (hlen : l.length <= 60) : L8 l m = some true := by
 unfold L8
 by_cases h2 : (l.length : Int) < 2
 .simp [h2]
 have hd : decide ((l.length : Int) < 2) = false := by simpa using h2
 simp only [hd, cond_false]
 obtain ⟨a, b, r, rfl⟩ : ∃ a b r, l = a :: b :: r := by
  match l, h2 with
  | [], h => simp at h
  | [a], h => simp at h
  | a :: b :: r, _ => exact ⟨a, b, r, rfl⟩
 have i0 : Aj (a :: b :: r) 0 = some a := rfl
 have i1 : Aj (a :: b :: r) 1 = some b := rfl
 obtain ⟨hs, hc⟩ := hl.chain a b r rfl
 have st : ∀ (o e : Int), 0 <= e -> EF (a :: b :: r) m (o, e) = some (.inl (if HG p ⟨a, e⟩ b then e else o, Ab (e - 1))) := by
  intro o e he
  simp only [EF, he, decide_true, cond_true, i0, i1, Option.bind_some, Uj hm]
  by_cases hm : HG p ⟨a, e⟩ b <;> simp [hm]
 have two : AQ (EF (a :: b :: r) m) ((-1), 1) = AQ (EF (a :: b :: r) m) (Do p a b, -1) := by
  rw [CT (st (-1) 1 (by omega)), show Ab (1 - 1) = 0 by decide, CT (st _ 0 (by omega)), show Ab (0 - 1) = -1 by decide]
  rfl
 rw [two, HY]
 have hsd : decide (Do p a b < 0) = false := by simp; omega
 simp only [EF, show decide ((0 : Int) <= -1) = false by decide, cond_false, hsd]
 have key : AQ (Fg (a :: b :: r) m) (Do p a b, 1) = some true := by
  obtain ⟨t, ht, rfl⟩ : ∃ t, AQ (Fg (a :: b :: r) m) (Do p a b, 1) = some t /\ t = true := by
   refine EG (fun k s => k + 1 <= (a :: b :: r).length /\ s.2 = ((k + 1 : Nat) : Int) /\ ∀ e, (a :: b :: r)[k]? = some e -> JT p s.1 e ((a :: b :: r).drop (k + 1))) (a :: b :: r).length ?_ ⟨by simp, rfl, fun e he => by cases he; exact hc⟩
   rintro k ⟨o, i⟩ ⟨hk, hi, hch⟩
   simp only at hi hch
   subst hi
   generalize hL : a :: b :: r = L at *
   by_cases he : k + 1 = L.length
   .have : decide (((k + 1 : Nat) : Int) < L.length) = false := by simp; omega
    exact .inl ⟨true, by simp only [Fg, this, cond_false], rfl⟩
   have hlt : k + 1 < L.length := by omega
   have : decide (((k + 1 : Nat) : Int) < L.length) = true := by simp; omega
   have ha : L[k]? = some (L[k]'(by omega)) := List.getElem?_eq_getElem _
   have hb : L[k + 1]? = some (L[k + 1]'hlt) := List.getElem?_eq_getElem _
   have e1 : Ab (((k + 1 : Nat) : Int) - 1) = (k : Int) := by rw [CX] <;> omega
   have := hch _ ha
   rw [List.drop_eq_getElem_cons hlt] at this
   obtain ⟨y, hn, hy, hrest⟩ := Vi this
   obtain ⟨f1, f2, _⟩ := Ea (hv.join.next hn)
   have e2 : (y.elem != L[k + 1]'hlt) = false := by simp [hy]
   have hd : decide (((k + 1 : Nat) : Int) < L.length) = true := by simp; omega
   refine .inr ⟨by omega, (1 - y.fin, ((k + 1 + 1 : Nat) : Int)), ?_, by omega, rfl, fun e he' => ?_⟩
   .simp only [Fg, hd, cond_true, e1, Ai, ha, hb, Option.bind_some, hm, hn, Option.isSome_some, Option.getD_some, Bool.not_true, cond_false, e2,
     AX (show k + 1 < 1000000000 by omega), CX (n := 1 - y.fin) (by omega) (by omega)]
   rw [hb] at he'; cases he'; exact hrest
  exact ht
 rw [key]; rfl
theorem Q6 (p : AH) (hv : CR p) (m : List (AC × AC)) (hm : ∀ x, AV m x = Ao p x) : KH p m = some true := by
 have q1 := hv.few.elems; have q4 := hv.few.lines
 have nod := hv.line.once
 unfold KH
 obtain ⟨b, hb, rfl⟩ := B4 (l := p.lines) (step := F2 p m) (Post := fun b => b = true) (fun i c => ∀ x, (AV c x).getD false = decide (x ∈ (p.lines.take i).flatMap (·.elems))) (fun c hI => ⟨true, by simp only [F2, CF, cond_false], rfl⟩) (fun i a c ha hI => by
   have := Bh ha
   have hl := hv.line.line i a ha
   have hal := (hv.few.line i a ha).1
   have h0 : ((a.elems.length : Int) == 0) = false := by rw [beq_eq_false_iff_ne]; have := hl.one; omega
   simp only [F2, Bl ha, cond_true, Ai, ha, Option.bind_some, h0, cond_false]
   have split : p.lines.flatMap (·.elems) = (p.lines.take i).flatMap (·.elems) ++ (a.elems ++ (p.lines.drop (i + 1)).flatMap (·.elems)) := by
    rw [<- List.append_assoc, <- E2 ha, <- List.flatMap_append, List.take_append_drop]
   rw [split] at nod
   obtain ⟨r, hr, c', rfl, hc'⟩ : ∃ r, AQ (F1 p m ((i : Int), c) a) (0, c) = some r /\ ∃ c', r = .inl (((i + 1 : Nat) : Int), c') /\ ∀ x, (AV c' x).getD false = decide (x ∈ (p.lines.take (i + 1)).flatMap (·.elems)) := by
    refine B4 (l := a.elems) (fun k d => ∀ x, (AV d x).getD false = decide (x ∈ (p.lines.take i).flatMap (·.elems) ++ a.elems.take k)) (fun d hd => ?_) (fun k e d he hd => ?_) (c := c) (fun x => by simpa using hI x)
    .rw [List.take_length] at hd
     refine ⟨.inl (((i + 1 : Nat) : Int), d), ?_, d, rfl, fun x => by rw [hd, E2 ha]⟩
     simp only [F1, CF, cond_false, TC p hv m hm a.elems hl hal, Option.bind_some, AX (show i < 1000000000 by omega)]; rfl
    have hk := Bh he
    have ht := hl.track k e he
    obtain ⟨el, hel⟩ : ∃ el, Aj p.elems e = some el := by
     cases h : Aj p.elems e with
     | none => simp [Af, h] at ht
     | some el => exact ⟨el, rfl⟩
    obtain ⟨g1, g2⟩ := QB hel
    have hke : el.kind = 1 := by simpa [Af, hel] using ht
    have hnew : ¬ e ∈ (p.lines.take i).flatMap (·.elems) ++ a.elems.take k := by
     intro hx
     rcases List.mem_append.1 hx with hx | hx
     .exact (List.nodup_append.1 nod).2.2 e hx e (List.mem_append_left _ (List.mem_of_getElem? he)) rfl
     obtain ⟨j, hj, hje⟩ := MF hx
     have nd := (List.nodup_append.1 (List.nodup_append.1 nod).2.1).1
     have := (List.getElem?_inj (Bh hje) nd).1 (hje.trans he.symm)
     omega
    refine .inr ⟨Au e true d, ?_, fun x => ?_⟩
    .simp only [F1, Bl he, cond_true, Ai, he, Option.bind_some, show ¬ e < 0 by omega, show ¬ (p.elems.length : Int) <= e by omega, decide_false, cond_false, hel, hke, hd, hnew, AX (show k < 1000000000 by omega)]
     rfl
    rw [Cr, List.take_add_one, he]
    simp only [Option.toList_some, <- List.append_assoc]
    by_cases hx : x = e
    .simp [hx]
    rw [if_neg hx, hd]; simp only [List.mem_append, List.mem_singleton, hx, or_false]
   exact .inr ⟨c', hr, hc'⟩) (c := []) (fun x => by simp [AV])
 exact hb
theorem Sc (p : AH) (hv : CR p) : K2 p = some true := by
 have q1 := hv.few.elems; have q3 := hv.few.signals; have q4 := hv.args.top; have q5 := hv.args.margin
 obtain ⟨n, hn, n1, n2⟩ := Pf p.top p.brake
 have hs := hv.long.stop n hn
 have hn' : OA p.top p.brake = some n := hn
 unfold K2
 simp only [hn', Option.bind_some]
 rw [CX (n := p.top + n) (by omega) (by omega)]
 have hd : decide (p.margin < p.top + n) = false := by simp; omega
 simp only [hd, cond_false]
 have e2 : AQ (Eu p) 0 = some true := by
  obtain ⟨b, hb, rfl⟩ := Bu (l := p.elems) (step := Eu p) (Post := fun b => b = true) (fun _ _ => True) (fun _ => ⟨true, by simp only [Eu, CF, cond_false], rfl⟩) (fun i e he _ => by
   have := Bh he
   refine .inr ⟨?_, trivial⟩
   simp only [Eu, Bl he, cond_true, Ai, he, Option.bind_some, ME, AX (show i < 1000000000 by omega)]
   by_cases hk : e.kind = 4
   .simp [hk]
   have := hv.long.elem i e he hk
   simp only [if_neg hk, show ¬ e.length < p.top by omega, decide_false]; rfl)
  exact hb
 obtain ⟨b, hb, rfl⟩ := Bu (l := p.signals) (step := Gm p) (Post := fun b => b = true) (fun _ _ => True) (fun _ => ⟨true, by simp only [Gm, CF, cond_false, e2]; rfl, rfl⟩) (fun i s h _ => by
  have := Bh h
  obtain ⟨e, he, hke⟩ := MQ (hv.sig.has i s h)
  have hle : Ip p s.at_.elem = e.length := by simp [Ip, he]
  refine .inr ⟨?_, trivial⟩
  simp only [Gm, Bl h, cond_true, Ai, h, Option.bind_some, D6, he, AX (show i < 1000000000 by omega)]
  by_cases hk : e.kind = 1
  .have := hv.long.signal i s h (by rw [hke]; exact hk)
   rw [hle] at this
   simp only [if_pos hk, show ¬ e.length < p.margin by omega, decide_false]; rfl
  simp only [if_neg hk]; rfl)
 exact hb
theorem Q3 (p : AH) (hv : CR p) : KJ p = some 0 := by
 have h1 := hv.ne; have h2 := hv.ns; have h3 := hv.nl; have h4 := hv.nj
 obtain ⟨m, hm, hn⟩ := QG p hv.few hv.join
 unfold KJ
 simp only [show ¬ (40 : Int) < p.elems.length by omega, show ¬ (24 : Int) < p.signals.length by omega, show ¬ (4 : Int) < p.lines.length by omega, show ¬ (80 : Int) < p.joins.length by omega, decide_false, cond_false, Option.bind_some,
  Uf p hv.few hv.args, Bool.not_true, Yh p hv.few hv.n1, Yi p hv.few hv.n2, Yj p hv.few hv.n3, hm, Pl p hv m hn, Q6 p hv m hn, Sc p hv]
end Go.E
/- Plain Lean: the net that the program makes of a valid plan. No condition. -/
namespace Go.E
open Go
structure Ct (p : AH) (n : CK) : Prop where
 plan : n.p = p
 next : ∀ x, AV n.next x = Ao p x
 reads : ∀ x, AV n.reads x = if 0 <= Az p x then some (Az p x) else none
theorem D8 {α : Type} [DecidableEq α] (l : List α) (h : l.length <= 1000000) : K0 l (some []) ((BP ([] : List α) l).bind fun y => some y) = some l := by
 rw [BS (by simp; omega)]
 cases l with
 | nil => simp [K0, agree]
 | cons a l => rfl
theorem Th (p : AH) (hf : EZ p) : Jr p = some p := by
 have q1 := hf.elems; have q2 := hf.joins; have q3 := hf.signals; have q4 := hf.lines
 have c1 : G8 p.elems = some p.elems := D8 _ (by omega)
 have c2 : G9 p.joins = some p.joins := D8 _ (by omega)
 have c3 : GV p.signals = some p.signals := D8 _ (by omega)
 have c4 : HA p.lines = some p.lines := D8 _ (by omega)
 unfold Jr
 simp only [c1, c2, c3, c4, Option.bind_some]
 obtain ⟨b, hb, rfl⟩ := B4 (l := p.lines) (step := HR p p.elems p.joins p.signals p.lines) (Post := fun b => b = p) (fun i c => c = p.lines) (fun c hc => by
   subst hc; exact ⟨p, by simp only [HR, CF, cond_false], rfl⟩) (fun i a c ha hc => by
   subst hc
   have := Bh ha
   have hal := (hf.line i a ha).1
   have c5 : CA a.elems = some a.elems := D8 _ (by omega)
   refine .inr ⟨p.lines, ?_, rfl⟩
   simp only [HR, Bl ha, cond_true, Ai, ha, Option.bind_some, c5, AX (show i < 1000000000 by omega)]
   have : KD p.lines (i : Int) (⟨a.name, a.elems⟩ : B9) = p.lines := by
    unfold KD
    apply List.ext_getElem?
    intro k
    rw [List.getElem?_set]
    split
    .rename_i h; simp only [Int.toNat_natCast] at h; subst h; split
     .exact ha.symm
     rename_i h2; simp at h2; omega
    rfl
   rw [this]) (c := p.lines) rfl
 exact hb
theorem Pa (x : AC) (s : A4) : ∀ (l : List A4) (i : Nat), Cf x i (l ++ [s]) = if 0 <= Cf x i l then Cf x i l else if s.at_ = x then ((i + l.length : Nat) : Int) else -1
 | [], i => by simp [Cf]
 | t :: l, i => by
  by_cases h : t.at_ = x
  .simp [Cf, h]
  have e : ∀ r, Cf x i (t :: r) = Cf x (i + 1) r := fun r => by simp [Cf, h]
  simp only [List.cons_append, e, Pa x s l (i + 1), List.length_cons]
  rw [show i + 1 + l.length = i + (l.length + 1) by omega]
theorem VQ (p y15 : AH) (hf : EZ p) (s58 : Int × List (AC × AC)) (s140 : Int × List (AC × Int)) : ∃ a b, AQ (GW p y15 s58 s140) (0, [], []) = some (some ⟨y15, s58.2, s140.2, a, b⟩, 0) := by
 have q4 := hf.lines
 obtain ⟨r, hr, a, b, rfl⟩ : ∃ r, AQ (GW p y15 s58 s140) (0, [], []) = some r /\ ∃ a b, r = (some ⟨y15, s58.2, s140.2, a, b⟩, 0) := by
  refine B4 (l := p.lines) (fun _ _ => True) (fun c _ => ⟨_, by simp only [GW, CF, cond_false], c.1, c.2, rfl⟩) (fun i l c h _ => ?_) (c := (([], []) : List (Int × Fq) × List (Int × Int))) trivial
  have := Bh h
  have hal := (hf.line i l h).1
  obtain ⟨t, ht⟩ : ∃ t : Int, ((bif decide (1 < (l.elems.length : Int)) then (Aj l.elems 0).bind fun y1186 => ((bif (AV s58.2 (⟨y1186, 0⟩ : AC)).isSome then (Aj l.elems 1).bind fun y1195 => some ((((AV s58.2 (⟨y1186, 0⟩ : AC)).getD (⟨0, 0⟩ : AC)).elem) == y1195) else some false : Option (Bool))).bind fun (t1192 : Bool) => bif t1192 then some 1 else some 0 else some 0 : Option (Int))) = some t := by
   match hl : l.elems with
   | [] => exact ⟨0, by simp⟩
   | [a] => exact ⟨0, by simp⟩
   | a :: b :: r =>
    have hd : decide (1 < ((a :: b :: r).length : Int)) = true := by simp; omega
    have i0 : Aj (a :: b :: r) 0 = some a := rfl
    have i1 : Aj (a :: b :: r) 1 = some b := rfl
    simp only [hd, cond_true, i0, i1, Option.bind_some]
    cases (AV s58.2 (⟨a, 0⟩ : AC)).isSome with
    | false => exact ⟨0, rfl⟩
    | true =>
     simp only [cond_true, Option.bind_some]
     cases ((AV s58.2 (⟨a, 0⟩ : AC)).getD (⟨0, 0⟩ : AC)).elem == b with
     | false => exact ⟨0, rfl⟩
     | true => exact ⟨1, rfl⟩
  refine .inr ?_
  simp only [GW, Bl h, cond_true, Ai, h, Option.bind_some, ht]
  obtain ⟨r, hr, c', rfl⟩ : ∃ r, AQ (H6 s58 ((i : Int), c) l) (t, 0, c.1, c.2) = some r /\ ∃ c', r = .inl (((i + 1 : Nat) : Int), c') := by
   refine EG (fun k s => s.2.1 = (k : Int) /\ k <= l.elems.length) l.elems.length ?_ ⟨rfl, Nat.zero_le _⟩
   rintro k ⟨x, j, d1, d2⟩ ⟨hj, hk⟩
   simp only at hj
   subst hj
   by_cases he : k = l.elems.length
   .subst he
    exact .inl ⟨.inl (((i + 1 : Nat) : Int), d1, d2), by simp only [H6, CF, cond_false, AX (show i < 1000000000 by omega)], (d1, d2), rfl⟩
   have ha : l.elems[k]? = some (l.elems[k]'(by omega)) := List.getElem?_eq_getElem _
   exact .inr ⟨by omega, (((AV s58.2 (⟨l.elems[k]'(by omega), Ab (1 - x)⟩ : AC)).getD (⟨0, 0⟩ : AC)).fin, ((k + 1 : Nat) : Int), Au (l.elems[k]'(by omega)) (⟨(i : Int), (k : Int)⟩ : Fq) d1, Au (l.elems[k]'(by omega)) x d2), by simp only [H6, Bl ha, cond_true, Ai, ha, Option.bind_some, AX (show k < 1000000000 by omega)], rfl, by omega⟩
  exact ⟨c', hr, trivial⟩
 exact ⟨a, b, hr⟩
theorem Ya (p : AH) (hv : CR p) : ∃ n, Qd p = some (some n, 0) /\ Ct p n := by
 have q2 := hv.few.joins; have q3 := hv.few.signals
 unfold Qd
 simp only [Q3 p hv, Option.bind_some, bne_self_eq_false, cond_false, Th p hv.few]
 have l2 : ∀ s58 : Int × List (AC × AC), (∀ x, AV s58.2 x = Ao p x) -> ∃ r, AQ (H7 p p s58) (0, []) = some r /\ ∃ n, r = (some n, 0) /\ Ct p n := by
  intro s58 hs
  refine B4 (l := p.signals) (fun i c => ∀ x, AV c x = if 0 <= Cf x 0 (p.signals.take i) then some (Cf x 0 (p.signals.take i)) else none) (fun c hI => ?_) (fun i s c h hI => ?_) (c := []) (fun x => by simp [AV, Cf])
  .rw [List.take_length] at hI
   obtain ⟨a, b, hr⟩ := VQ p p hv.few s58 ((p.signals.length : Int), c)
   exact ⟨_, by simp only [H7, CF, cond_false, hr]; rfl, _, rfl, ⟨rfl, hs, hI⟩⟩
  have := Bh h
  refine .inr ⟨Au s.at_ (i : Int) c, by simp only [H7, Bl h, cond_true, Ai, h, Option.bind_some, AX (show i < 1000000000 by omega)], fun x => ?_⟩
  have hlen : (p.signals.take i).length = i := by rw [List.length_take]; omega
  rw [Cr, List.take_add_one, h]
  simp only [Option.toList_some, Pa, hI, hlen]
  by_cases hx : x = s.at_
  .subst hx
   have hr := hv.sig.reads i s h
   have hnot : ¬ 0 <= Cf s.at_ 0 (p.signals.take i) := by
    intro h0
    rcases I4 s.at_ (p.signals.take i) 0 with ⟨h1, _⟩ | ⟨k, t, h1, h2, _, _⟩
    .omega
    obtain ⟨j, hj, hjt⟩ := MF (List.mem_of_getElem? h1)
    have := hv.sig.reads j t hjt
    rw [h2, hr] at this
    omega
   rw [if_pos rfl, if_neg hnot, if_pos rfl, if_pos (by omega)]
   simp
  have hx' : ¬ s.at_ = x := fun e => hx e.symm
  by_cases h0 : 0 <= Cf x 0 (p.signals.take i)
  .simp only [if_neg hx, if_pos h0]
  simp only [if_neg hx, if_neg h0, if_neg hx']; rfl
 obtain ⟨r, hr, n, rfl, hn⟩ : ∃ r, AQ (H8 p p) (0, []) = some r /\ ∃ n, r = (some n, 0) /\ Ct p n := by
  refine B4 (l := p.joins) (fun i c => ∀ x, AV c x = CZ (p.joins.take i) x) (fun c hI => ?_) (fun i j c h hI => ?_) (c := []) (fun x => by simp [AV, CZ])
  .rw [List.take_length] at hI
   obtain ⟨r, hr, h⟩ := l2 ((p.joins.length : Int), c) hI
   exact ⟨r, by simp only [H8, CF, cond_false, hr]; rfl, h⟩
  have := Bh h
  exact .inr ⟨_, by simp only [H8, Bl h, cond_true, Ai, h, Option.bind_some, AX (show i < 1000000000 by omega)], Qh hv.join h hI⟩
 exact ⟨n, hr, hn⟩
end Go.E
/- Plain Lean: sorted rows without repetition. No condition. -/
namespace Go.E
open Go
end Go.E
/- Plain Lean: what a net says is what the plan says. No condition. -/
namespace Go.E
open Go
theorem KO (p : AH) (e : Int) : GX p e = some (Af p e) := by
 unfold GX; rw [D7]; rfl
section
variable {p : AH} {n : CK}
theorem WU (h : Ct p n) (e : Int) : Ik n e = some ((Aj p.elems e).getD ⟨ByteArray.empty, 0, 0⟩) := by
 unfold Ik
 rw [h.plan]
 by_cases h1 : e < 0
 .simp [h1, EY (.inl h1)]
 by_cases h2 : (p.elems.length : Int) <= e
 .simp [h1, h2, EY (.inr h2)]
 obtain ⟨a, ha⟩ := NK (l := p.elems) (n := e) (by omega) (by omega)
 simp [h1, h2, ha]
theorem Oc (h : Ct p n) (e : Int) : Dw n e = some (Af p e) := by
 unfold Dw Af
 rw [WU h]
 cases Aj p.elems e <;> rfl
theorem Od (h : Ct p n) (x : AC) : Cj n x = some ((Ao p x).getD ⟨0, 0⟩, (Ao p x).isSome) := by
 unfold Cj; rw [h.next]
theorem SP (p : AH) (x : AC) : Az p x = -1 \/ (0 <= Az p x /\ Az p x < p.signals.length) := by
 rcases I4 x p.signals 0 with ⟨h, _⟩ | ⟨k, s, h1, _, h3, _⟩
 .exact .inl h
 have := Bh h1
 right
 unfold Az
 rw [h3]; omega
theorem VR (h : Ct p n) (x : AC) : IA n x = some (Az p x) := by
 unfold IA
 rw [h.reads]
 rcases SP p x with h1 | ⟨h1, _⟩
 .rw [if_neg (by omega), h1]; rfl
 rw [if_pos h1]; rfl
def CD (p : AH) (e i : Int) : List Cx :=
 if Cv p ⟨e, i⟩ then if Af p e = 1 then [⟨1 - i, 0⟩] else if Af p e = 3 then [⟨if i = 0 then 1 else if i = 1 then 0 else if i = 2 then 3 else 2, 0⟩] else if Af p e = 2 then if i = 0 then [⟨1, 1⟩, ⟨2, 2⟩] else [⟨0, i⟩] else [] else []
theorem Pb (p : AH) (e i : Int) : Hk p e i = some (CD p e i) := by
 unfold Hk CD
 simp only [I3, Option.bind_some, D7, D6]
 cases hh : Cv p ⟨e, i⟩ with
 | false => rfl
 | true =>
  obtain ⟨h1, h2, h3⟩ := Ea hh
  simp only at h1 h2 h3
  simp only [Bool.not_true, cond_false, if_true]
  by_cases k1 : Af p e = 1
  .simp only [if_pos k1, CX (n := 1 - i) (by omega) (by omega)]
  by_cases k3 : Af p e = 3
  .simp only [if_neg k1, if_pos k3]
   have : i = 0 \/ i = 1 \/ i = 2 \/ i = 3 := by omega
   rcases this with rfl | rfl | rfl | rfl <;> rfl
  by_cases k2 : Af p e = 2
  .simp only [if_neg k1, if_neg k3, if_pos k2]
   by_cases i0 : i = 0 <;> simp [i0]
  simp only [if_neg k1, if_neg k3, if_neg k2]
theorem WV (h : Ct p n) (e i : Int) : Il n e i = some (CD p e i) := by
 unfold Il CD
 simp only [Oc h, Option.bind_some, LZ, D6]
 by_cases h0 : i < 0
 .have : Cv p ⟨e, i⟩ = false := by simp [Cv]; omega
  simp [h0, this]
 by_cases h1 : CH (Af p e) <= i
 .have : Cv p ⟨e, i⟩ = false := by simp [Cv]; omega
  simp [h0, h1, this]
 have hh : Cv p ⟨e, i⟩ = true := by simp [Cv]; omega
 obtain ⟨_, h2, h3⟩ := Ea hh
 simp only at h2 h3
 simp only [h0, h1, decide_false, cond_false, Option.bind_some, hh, if_true]
 by_cases k1 : Af p e = 1
 .simp only [if_pos k1, CX (n := 1 - i) (by omega) (by omega)]
 by_cases k3 : Af p e = 3
 .simp only [if_neg k1, if_pos k3]
  have : i = 0 \/ i = 1 \/ i = 2 \/ i = 3 := by omega
  rcases this with rfl | rfl | rfl | rfl <;> rfl
 by_cases k2 : Af p e = 2
 .simp only [if_neg k1, if_neg k3, if_pos k2]
  rw [k2] at h3
  have : i = 0 \/ i = 1 \/ i = 2 := by simp [CH] at h3; omega
  rcases this with rfl | rfl | rfl <;> rfl
 simp only [if_neg k1, if_neg k3, if_neg k2]
def CV : List Cx -> Int -> Option Int
 | [], _ => none
 | w :: r, x => if w.pos = 0 \/ w.pos = x then some w.out else CV r x
def BN (p : AH) (e i x : Int) : Option Int := CV (CD p e i) x
theorem Kj (p : AH) (e i : Int) : (CD p e i).length <= 2 := by
 unfold CD
 repeat' split
 all_goals simp
theorem S7 (h : Ct p n) (e i x : Int) : Gt n e i x = some ((BN p e i x).getD 0, (BN p e i x).isSome) := by
 unfold Gt BN
 rw [WV h]
 simp only [Option.bind_some]
 have hl := Kj p e i
 refine JQ (γ := Unit) (CD p e i) (fun k _ => (k : Int)) (fun _ _ r => some ((CV r x).getD 0, (CV r x).isSome)) (fun _ => ?_) (fun k _ a r ha hi => ?_) ()
 .simp [FN, CV]
 simp only [FN, Ai, ha, Option.bind_some, Bl ha, cond_true, CV, D6]
 by_cases h1 : a.pos = 0
 .left; simp [h1]
 by_cases h2 : a.pos = x
 .left
  simp [h1, h2]
 right
 have : (a.pos == x) = false := beq_eq_false_iff_ne.2 h2
 exact ⟨(), by simp [h1, this, AX (show k < 1000000000 by omega)], by simp [h1, h2]⟩
end
end Go.E
/- Plain Lean: RoadFinds answers true, for every argument. No condition. -/
namespace Go.E
open Go
theorem Xj {α : Type} [DecidableEq α] {a b : List α} (hl : a.length = b.length) (hb : a.length < 1000000) {step : Int -> Option (Int ⊕ Bool)}
    (h : ∀ i : Nat, i <= a.length -> step (i : Int) = if h : i < a.length then (if a[i] = b[i]'(by omega) then some (.inl ((i + 1 : Nat) : Int)) else some (.inr false)) else some (.inr true)) : AQ step 0 = some (decide (a = b)) := by
  by_cases hab : a = b
  . subst hab
    obtain ⟨r, h1, h2⟩ := Bu (l := a) (step := step) (Post := fun r => r = true) (fun _ _ => True) (fun _ => ⟨true, by rw [h _ (Nat.le_refl _)]; simp, rfl⟩)
      (fun i x hx _ => .inr ⟨by have := Bh hx; rw [h _ (by omega), dif_pos this, if_pos rfl], trivial⟩)
    rw [h1, h2]; simp
  obtain ⟨r, h1, h2⟩ := Bu (l := a) (step := step) (Post := fun r => r = false) (fun i x => b[i]? = some x) (fun good => by
      exfalso; refine hab (List.ext_getElem hl fun i h1 h2 => ?_)
      have := good i _ (List.getElem?_eq_getElem h1)
      rw [List.getElem?_eq_getElem h2] at this
      exact (Option.some.inj this).symm)
    (fun i x hx _ => by
      have hi := Bh hx
      have hx' : a[i] = x := Option.some.inj ((List.getElem?_eq_getElem hi).symm.trans hx)
      rw [h _ (by omega), dif_pos hi]
      by_cases e : a[i] = b[i]'(by omega)
      . exact .inr ⟨by rw [if_pos e], by rw [List.getElem?_eq_getElem (by omega), <- e, hx']⟩
      exact .inl ⟨false, by rw [if_neg e], rfl⟩)
  rw [h1, h2]; simp [hab]
theorem Xk {α : Type} [DecidableEq α] {a b : List α} (hl : a.length = b.length) (hb : a.length < 1000000) (i : Nat) (hi : i <= a.length) :
  (bif decide ((i : Int) < (a.length : Int)) then (Aj a i).bind fun y => (Aj b i).bind fun z => bif (!(y == z)) then some (.inr false) else some (.inl (Ab ((i : Int) + 1))) else some (.inr true) : Option (Int ⊕ Bool)) =
   if h : i < a.length then (if a[i] = b[i]'(by omega) then some (.inl ((i + 1 : Nat) : Int)) else some (.inr false)) else some (.inr true) := by
 by_cases h : i < a.length
 .have d : decide ((i : Int) < (a.length : Int)) = true := by simpa using h
  have h2 : b[i]? = some (b[i]'(by omega)) := List.getElem?_eq_getElem _
  simp only [d, cond_true, Ai, List.getElem?_eq_getElem h, h2, Option.bind_some, dif_pos h, AX (show i < 1000000000 by omega)]
  by_cases e : a[i] = b[i]'(by omega)
  .simp [e]
  have : (a[i] == b[i]'(by omega)) = false := beq_eq_false_iff_ne.2 e
  simp only [this, Bool.not_false, cond_true, if_neg e]
 have d : decide ((i : Int) < (a.length : Int)) = false := by simp; omega
 simp only [d, cond_false, dif_neg h]
theorem Yc {α : Type} [DecidableEq α] {a b : List α} (h : a.length ≠ b.length) : decide (a = b) = false := by
 simp only [decide_eq_false_iff_not]; intro e; exact h (by rw [e])
theorem QD (a b : List Int) (hb : a.length < 1000000) : DC a b = some (decide (a = b)) := by
 unfold DC
 rw [ME]
 split
 .exact Xj (by omega) hb fun i hi => by unfold Hb; exact Xk (by omega) hb i hi
 rw [Yc (by omega)]
theorem WX {a b : AT} : a = b ↔ a.frm = b.frm /\ a.to = b.to /\ a.fin = b.fin /\ a.steps = b.steps /\ a.needs = b.needs /\ a.guards = b.guards /\ a.zone = b.zone /\ a.holds = b.holds /\ a.bare = b.bare := by
 cases a; cases b; simp
theorem WY {r : AT} (hl : r.steps.length < 1000000) {step : Int × List Int -> Option ((Int × List Int) ⊕ List Int)}
  (h : ∀ (i : Int) (o : List Int), step (i, o) = bif decide (i < (r.steps.length : Int)) then (Aj r.steps i).bind fun y => (BP o [y.elem]).bind fun z => some (.inl (Ab (i + 1), z)) else some (.inr o)) : AQ step (0, []) = some (r.steps.map (·.elem)) := by
 obtain ⟨b, h1, h2⟩ := B4 (l := r.steps) (step := step) (Post := fun b => b = r.steps.map (·.elem)) (fun i o => o = (r.steps.take i).map (·.elem)) (c := [])
  (fun c hc => ⟨c, by rw [h]; simp [CF], by rw [hc, List.take_length]⟩)
  (fun i a c ha hc => by
   have := Bh ha
   have hlen : c.length <= i := by rw [hc]; simp; omega
   refine .inr ⟨c ++ [a.elem], ?_, by rw [hc, DF ha]⟩
   rw [h]
   simp only [Bl ha, cond_true, Ai, ha, Option.bind_some]
   rw [BS (by simp; omega)]
   simp only [Option.bind_some, AX (show i < 1000000000 by omega)])
  (by simp)
 rw [h1, h2]
theorem VU (r : AT) (hl : r.steps.length < 1000000) : I2 r = some (r.steps.map (·.elem)) := WY hl fun _ _ => rfl
end Go.E
/- Plain Lean: the roads of a signal: the document's search and the program's are one. No condition. -/
namespace Go.E
open Go
def Hm (s to fin : Int) (st : List Aq) (nd : List AM) : AT := ⟨s, to, fin, st, nd, [], [], [], false⟩
def II (nd : List AM) (e pos : Int) : List AM := if pos = 0 then nd else nd ++ [⟨e, pos⟩]
def Md (p : AH) (s : Int) : Nat -> List Aq -> List AM -> AC -> List Int -> List AT
 | 0, _, _, _, _ => []
 | k + 1, st, nd, x, met => if x.elem ∈ met \/ st.length = 12 then [] else if Af p x.elem = 4 then [Hm s (-1) 2 (st ++ [⟨x.elem, x.fin, -1⟩]) nd] else
  (CD p x.elem x.fin).flatMap fun w => if 0 <= Az p ⟨x.elem, w.out⟩ then [Hm s (Az p ⟨x.elem, w.out⟩) 1 (st ++ [⟨x.elem, x.fin, w.out⟩]) (II nd x.elem w.pos)] else match Ao p ⟨x.elem, w.out⟩ with
   | none => [Hm s (-1) 3 (st ++ [⟨x.elem, x.fin, w.out⟩]) (II nd x.elem w.pos)]
   | some y => Md p s k (st ++ [⟨x.elem, x.fin, w.out⟩]) (II nd x.elem w.pos) y (met ++ [x.elem])
def Hd (p : AH) (s : Int) (k : Nat) (st : List Aq) (nd : List AM) (x : AC) (met : List Int) (w : Cx) : List AT :=
 if 0 <= Az p ⟨x.elem, w.out⟩ then [Hm s (Az p ⟨x.elem, w.out⟩) 1 (st ++ [⟨x.elem, x.fin, w.out⟩]) (II nd x.elem w.pos)] else match Ao p ⟨x.elem, w.out⟩ with
  | none => [Hm s (-1) 3 (st ++ [⟨x.elem, x.fin, w.out⟩]) (II nd x.elem w.pos)]
  | some y => Md p s k (st ++ [⟨x.elem, x.fin, w.out⟩]) (II nd x.elem w.pos) y (met ++ [x.elem])
theorem MH (p : AH) (s : Int) (k : Nat) (st : List Aq) (nd : List AM) (x : AC) (met : List Int) :
  Md p s (k + 1) st nd x met = if x.elem ∈ met \/ st.length = 12 then [] else if Af p x.elem = 4 then [Hm s (-1) 2 (st ++ [⟨x.elem, x.fin, -1⟩]) nd] else (CD p x.elem x.fin).flatMap (Hd p s k st nd x met) := rfl
theorem SR (p : AH) (s : Int) (k : Nat) (st : List Aq) (nd : List AM) (x : AC) (met : List Int) (w : Cx) (ih : ∀ st nd x met, (Md p s k st nd x met).length <= 2 ^ k) : (Hd p s k st nd x met w).length <= 2 ^ k := by
 have h1 : 1 <= 2 ^ k := Nat.one_le_two_pow
 unfold Hd
 split
 .simp; omega
 split
 .simp; omega
 exact ih _ _ _ _
theorem JS {α β : Type} (f : α -> List β) (b : Nat) : ∀ l : List α, (∀ a ∈ l, (f a).length <= b) -> (l.flatMap f).length <= l.length * b
 | [], _ => by simp
 | a :: l, h => by
  have h1 := h a (by simp)
  have h2 := JS f b l fun x hx => h x (by simp [hx])
  simp only [List.flatMap_cons, List.length_append, List.length_cons, Nat.add_mul]
  omega
theorem QE (p : AH) (s : Int) : ∀ (k : Nat) (st : List Aq) (nd : List AM) (x : AC) (met : List Int), (Md p s k st nd x met).length <= 2 ^ k
 | 0, _, _, _, _ => by simp [Md]
 | k + 1, st, nd, x, met => by
  have h1 : 1 <= 2 ^ (k + 1) := Nat.one_le_two_pow
  rw [MH]
  split
  .simp
  split
  .simp; omega
  have h2 := JS (Hd p s k st nd x met) (2 ^ k) (CD p x.elem x.fin) fun w _ => SR p s k st nd x met w (QE p s k)
  have h3 := Kj p x.elem x.fin
  have h4 : (CD p x.elem x.fin).length * 2 ^ k <= 2 * 2 ^ k := Nat.mul_le_mul_right _ h3
  rw [Nat.pow_succ]; omega
theorem RS (l : List Int) (hl : l.length < 1000000) (x : Int) : Dd l x = some (decide (x ∈ l)) := by
 unfold Dd
 obtain ⟨b, h1, h2⟩ := Bu (l := l) (step := EL l x) (Post := fun b => b = decide (x ∈ l)) (fun _ y => y ≠ x) (fun good => ⟨false, by simp [EL], by
   symm; rw [decide_eq_false_iff_not]; intro hm
   obtain ⟨i, hi⟩ := List.getElem?_of_mem hm
   exact good i x hi rfl⟩) (fun i a ha _ => by
   have := Bh ha
   by_cases e : a = x
   .exact .inl ⟨true, by simp only [EL, Bl ha, cond_true, Ai, ha, Option.bind_some, e, beq_self_eq_true], by symm; rw [decide_eq_true_iff]; subst e; exact List.mem_of_getElem? ha⟩
   have : (a == x) = false := beq_eq_false_iff_ne.2 e
   exact .inr ⟨by simp only [EL, Bl ha, cond_true, Ai, ha, Option.bind_some, this, cond_false, AX (show i < 1000000000 by omega)], e⟩)
 rw [h1, h2]
theorem Nw (r : AT) (s : Aq) (pos fin to : Int) (h1 : r.steps.length <= 100) (h2 : r.needs.length <= 100) : EP r s pos fin to = some (Hm r.frm to fin (r.steps ++ [s]) (II r.needs s.elem pos)) := by
 unfold EP
 rw [BS (by simp; omega)]
 simp only [Option.bind_some, List.nil_append]
 rw [BS (by simp; omega)]
 simp only [Option.bind_some]
 rw [BS (by simp; omega)]
 simp only [Option.bind_some, List.nil_append, ME]
 unfold II Hm
 by_cases e : pos = 0
 .simp [e]
 simp only [if_neg e]
 rw [BS (by simp; omega)]
 simp
theorem SS (nd : List AM) (e pos : Int) : (II nd e pos).length <= nd.length + 1 := by
 unfold II; split <;> simp
noncomputable def XD (m : Nat) : AH × AT × AC × List Int -> Option (List AT) := NG (fun rc a => FM rc a.1 a.2.1 a.2.2.1 a.2.2.2) m
theorem XE {p : AH} (hf : EZ p) (s : Int) : ∀ (k m : Nat) (to fin : Int) (st : List Aq) (nd : List AM) (x : AC) (met : List Int), k <= m -> st.length + k = 13 -> nd.length <= st.length -> met.length <= st.length + 1 -> 1 <= k ->
  XD m (p, (⟨s, to, fin, st, nd, [], [], [], false⟩ : AT), x, met) = some (Md p s k st nd x met)
 | 0, _, _, _, _, _, _, _, _, _, _, _, h => by omega
 | k + 1, 0, _, _, _, _, _, _, h, _, _, _, _ => by omega
 | k + 1, m + 1, to, fin, st, nd, x, met, hkm, hst, hnd, hmet, _ => by
  have hpow : 2 ^ k <= 2 ^ 12 := Nat.pow_le_pow_right (by decide) (by omega)
  show FM (XD m) p ⟨s, to, fin, st, nd, [], [], [], false⟩ x met = _
  unfold FM
  rw [RS met (by omega) x.elem, MH]
  simp only [Option.bind_some]
  by_cases hm : x.elem ∈ met
  .simp [hm]
  simp only [hm, decide_false, cond_false, false_or, Option.bind_some]
  by_cases hl : st.length = 12
  .have : (((st.length : Nat) : Int) == 12) = true := by rw [beq_iff_eq]; omega
   simp only [this, cond_true, if_pos hl]
  have : (((st.length : Nat) : Int) == 12) = false := by rw [beq_eq_false_iff_ne]; omega
  simp only [this, cond_false, if_neg hl]
  rw [BS (by simp; omega)]
  simp only [Option.bind_some, List.nil_append]
  rw [BS (by simp; omega)]
  simp only [Option.bind_some, KO, D6]
  by_cases hk : Af p x.elem = 4
  .simp only [if_pos hk, Nw (⟨s, to, fin, st, nd, [], [], [], false⟩ : AT) ⟨x.elem, x.fin, -1⟩ 0 2 (-1) (by simp only; omega) (by simp only; omega), Option.bind_some, II, if_true]
  simp only [if_neg hk, Pb, Option.bind_some]
  have hol := Kj p x.elem x.fin
  have wl : ∀ w, (Hd p s k st nd x met w).length <= 2 ^ k := fun w => SR p s k st nd x met w (QE p s k)
  obtain ⟨b, h1, h2⟩ := B4 (l := CD p x.elem x.fin) (step := Fh p ⟨s, to, fin, st, nd, [], [], [], false⟩ x (XD m) (met ++ [x.elem]) (CD p x.elem x.fin))
   (Post := fun b => b = (CD p x.elem x.fin).flatMap (Hd p s k st nd x met)) (fun i o => o = ((CD p x.elem x.fin).take i).flatMap (Hd p s k st nd x met)) (c := [])
   (fun o ho => ⟨o, by simp [Fh], by rw [ho, List.take_length]⟩)
   (fun i w o hw ho => by
    have hi := Bh hw
    have hol2 : o.length <= 2 * 2 ^ k := by
     rw [ho]
     have h5 := JS (Hd p s k st nd x met) (2 ^ k) ((CD p x.elem x.fin).take i) fun w _ => wl w
     have h6 : ((CD p x.elem x.fin).take i).length * 2 ^ k <= 2 * 2 ^ k := Nat.mul_le_mul_right _ (by rw [List.length_take]; omega)
     omega
    have hw2 := wl w
    refine .inr ⟨o ++ Hd p s k st nd x met w, ?_, by rw [ho, List.take_add_one, hw]; simp⟩
    have hb : o.length + (Hd p s k st nd x met w).length <= 4294967296 := by omega
    simp only [Fh, Bl hw, cond_true, Ai, hw, Option.bind_some, HT p (show p.signals.length < 1000000 by have := hf.signals; omega)]
    unfold Hd at hb ⊢
    by_cases hr : 0 <= Az p ⟨x.elem, w.out⟩
    .rw [if_pos hr] at hb ⊢
     simp only [hr, decide_true, cond_true, Nw (⟨s, to, fin, st, nd, [], [], [], false⟩ : AT) ⟨x.elem, x.fin, w.out⟩ w.pos 1 (Az p ⟨x.elem, w.out⟩) (by simp only; omega) (by simp only; omega), Option.bind_some]
     rw [BS hb]
     simp only [Option.bind_some, AX (show i < 1000000000 by omega)]
    rw [if_neg hr] at hb ⊢
    simp only [hr, decide_false, cond_false, Ce p (by have := hf.joins; omega), Option.bind_some]
    cases hnx : Ao p ⟨x.elem, w.out⟩ with
    | none =>
     rw [hnx] at hb
     simp only [Option.isSome_none, Bool.not_false, cond_true, Nw (⟨s, to, fin, st, nd, [], [], [], false⟩ : AT) ⟨x.elem, x.fin, w.out⟩ w.pos 3 (-1) (by simp only; omega) (by simp only; omega), Option.bind_some]
     rw [BS hb]
     simp only [Option.bind_some, AX (show i < 1000000000 by omega)]
    | some y =>
     rw [hnx] at hb
     simp only at hb
     have hal := SS nd x.elem w.pos
     have hrec := XE hf s k m (-1) 0 (st ++ [⟨x.elem, x.fin, w.out⟩]) (II nd x.elem w.pos) y (met ++ [x.elem]) (by omega) (by simp; omega) (by simp; omega) (by simp; omega) (by omega)
     simp only [Option.isSome_some, Option.getD_some, Bool.not_true, cond_false, Nw (⟨s, to, fin, st, nd, [], [], [], false⟩ : AT) ⟨x.elem, x.fin, w.out⟩ w.pos 0 (-1) (by simp only; omega) (by simp only; omega), Option.bind_some]
     unfold Hm
     rw [hrec]
     simp only [Option.bind_some]
     rw [BS hb]
     simp only [Option.bind_some, AX (show i < 1000000000 by omega)])
   (by simp)
  rw [show (0 : Int) = ((0 : Nat) : Int) from rfl] at *
  rw [h1, h2]
def F5 (p : AH) (s : Int) : List AT := match Aj p.signals s with
 | none => []
 | some a => match Ao p a.at_ with
  | none => []
  | some y => Md p s 13 [] [] y [a.at_.elem]
theorem ZN (p : AH) (s : Int) : LQ p s = some (match Aj p.signals s with | none => (⟨0, 0⟩, false) | some a => (a.at_, true)) := by
 unfold LQ
 by_cases h1 : s < 0
 .simp [h1, EY (.inl h1)]
 by_cases h2 : (p.signals.length : Int) <= s
 .simp [h1, h2, EY (.inr h2)]
 obtain ⟨a, ha⟩ := NK (l := p.signals) (n := s) (by omega) (by omega)
 simp [h1, h2, ha]
theorem XF {p : AH} (hf : EZ p) (s : Int) : KK p s = some (F5 p s) := by
 unfold KK F5
 rw [ZN]
 cases Aj p.signals s with
 | none => rfl
 | some a =>
  simp only [Option.bind_some, Bool.not_true, cond_false, Ce p (by have := hf.joins; omega)]
  cases Ao p a.at_ with
  | none => rfl
  | some y =>
   have := XE hf s 13 1000 0 0 [] [] y [a.at_.elem] (by omega) rfl (by simp) (by simp) (by omega)
   simp only [Option.isSome_some, Option.getD_some, Bool.not_true, cond_false]
   show (XD 1000 _).bind _ = _
   rw [this]; rfl
end Go.E
/- Plain Lean: the program's search for roads gives what the document's does. No condition. -/
namespace Go.E
open Go
section
variable {p : AH} {n : CK}
theorem Xl {α : Type} (l : List α) (x : α) (hl : l.length < 1000000) : Ab (((l ++ [x]).length : Int) - 1) = (l.length : Int) := by
 have : (((l ++ [x]).length : Int) - 1) = (l.length : Int) := by simp
 rw [this, CX] <;> omega
theorem Yd {α : Type} {l : List α} {m : Nat} (x : α) (h : l.length = m) : Aj (l ++ [x]) (m : Int) = some x := by
 rw [Ai]; subst h; simp
theorem Xm {α : Type} {l : List α} (h : l ≠ []) (a b : Int) : YO l a b = YC l a b := by
 cases l with
 | nil => exact absurd rfl h
 | cons x l => rfl
theorem Ye {α : Type} {l : List α} {m : Nat} (x : α) (h : l.length = m) : YO (l ++ [x]) 0 (m : Int) = some l := by
 subst h
 rw [Xm (by simp)]
 unfold YC
 rw [if_pos ⟨by omega, by omega, by simp; omega⟩]; simp
end
end Go.E
/- Plain Lean: whether something is a road: the program's answer and the document's are one. No condition. -/
namespace Go.E
open Go
theorem MI {α : Type} {l : List α} {f : α -> Bool} (hl : l.length < 1000000) {step : Int -> Option (Int ⊕ Int)}
  (h0 : step (l.length : Int) = some (.inr (-1))) (h : ∀ (i : Nat) a, l[i]? = some a -> step (i : Int) = if f a = true then some (.inr (i : Int)) else some (.inl ((i + 1 : Nat) : Int))) :
  ∃ t, AQ step 0 = some t /\ ((t = -1 /\ l.find? f = none) \/ ∃ a, 0 <= t /\ l.find? f = some a /\ Aj l t = some a) := by
 have key : ∀ (r : List α) (i : Nat), l.drop i = r -> i <= l.length -> ∃ t, AQ step (i : Int) = some t /\ ((t = -1 /\ r.find? f = none) \/ ∃ a, 0 <= t /\ r.find? f = some a /\ Aj l t = some a) := by
  intro r
  induction r with
  | nil =>
   intro i hd hi
   have : i = l.length := by have := congrArg List.length hd; simp at this; omega
   subst this
   exact ⟨-1, Cq h0, .inl ⟨rfl, rfl⟩⟩
  | cons a r ih =>
   intro i hd hi
   have hlt : i < l.length := by have := congrArg List.length hd; simp at this; omega
   have ha : l[i]? = some a := by
    have : (l.drop i)[0]? = some a := by rw [hd]; rfl
    simpa using this
   have hr : l.drop (i + 1) = r := by
    have : (l.drop i).drop 1 = r := by rw [hd]; rfl
    rwa [List.drop_drop] at this
   by_cases c : f a = true
   .exact ⟨i, Cq (by rw [h i a ha, if_pos c]), .inr ⟨a, by omega, by simp [c], by rw [Ai, ha]⟩⟩
   obtain ⟨t, h1, h2⟩ := ih (i + 1) hr (by omega)
   refine ⟨t, by rw [CT (by rw [h i a ha, if_neg c]), h1], ?_⟩
   simpa [List.find?_cons, c] using h2
 exact key l 0 rfl (Nat.zero_le _)
def WZ (l : List Cx) (o : Int) : Option Cx := l.find? fun w => w.out == o
def DK (p : AH) (a : Int) : Option AC -> List Aq -> List AM -> List Aq -> Option (List AM)
 | _, _, nd, [] => some nd
 | none, _, _, _ :: _ => none
 | some x, pv, nd, s :: r => if s.elem ≠ x.elem \/ s.in_ ≠ x.fin \/ s.elem = a \/ s.elem ∈ pv.map (·.elem) then none else if Af p s.elem = 4 then (if r = [] /\ s.out = -1 then some nd else none) else match WZ (CD p s.elem s.in_) s.out with
  | none => none
  | some w => if r ≠ [] /\ 0 <= Az p ⟨s.elem, s.out⟩ then none else DK p a (Ao p ⟨s.elem, s.out⟩) (pv ++ [s]) (II nd s.elem w.pos) r
def MJ (p : AH) (fin to : Int) (l : Aq) : Bool :=
 if Af p l.elem = 4 then decide (fin = 2 /\ to = -1) else if 0 <= Az p ⟨l.elem, l.out⟩ then decide (fin = 1 /\ to = Az p ⟨l.elem, l.out⟩) else (Ao p ⟨l.elem, l.out⟩).isNone && decide (fin = 3 /\ to = -1)
def Ti (p : AH) (r : AT) : Bool := match Aj p.signals r.frm with
 | none => false
 | some sg => if r.steps.length < 1 \/ 12 < r.steps.length then false else match DK p sg.at_.elem (Ao p sg.at_) [] [] r.steps with
  | none => false
  | some nd => match r.steps.getLast? with
   | none => false
   | some l => MJ p r.fin r.to l && decide (r.needs = nd)
theorem Pe {p : AH} {a : Int} : ∀ {r : List Aq} {x : Option AC} {pv : List Aq} {nd nd' : List AM}, DK p a x pv nd r = some nd' -> nd'.length <= nd.length + r.length
 | [], x, pv, nd, nd', h => by
  have : nd = nd' := by cases x <;> simpa [DK] using h
  subst this; simp
 | s :: r, none, pv, nd, nd', h => by simp [DK] at h
 | s :: r, some x, pv, nd, nd', h => by
  unfold DK at h
  split at h
  .cases h
  split at h
  .split at h
   .cases h; simp
   cases h
  split at h
  .cases h
  split at h
  .cases h
  have h1 := Pe h
  rename_i w _ _
  have h2 := SS nd s.elem w.pos
  simp only [List.length_cons]; omega
section
variable {p : AH} {n : CK}
end
end Go.E
/- Plain Lean: whether something is a road, as the document says; the roads of a signal are roads, and none is told twice. No condition. -/
namespace Go.E
open Go
theorem Qi (p : AH) (e i : Int) : (CD p e i).Pairwise (fun a b => a.out ≠ b.out) := by
 unfold CD
 repeat' split
 all_goals simp
theorem Qj {p : AH} {e i : Int} {w : Cx} (h : w ∈ CD p e i) : 0 <= w.out /\ w.out < CH (Af p e) /\ 0 <= i /\ i < CH (Af p e) /\ Af p e ≠ 4 /\ (w.pos ≠ 0 -> Af p e = 2 /\ (w.pos = 1 \/ w.pos = 2)) := by
 unfold CD at h
 cases hh : Cv p ⟨e, i⟩ with
 | false => rw [hh] at h; simp at h
 | true =>
  obtain ⟨h1, h2, h3⟩ := Ea hh
  simp only at h1 h2 h3
  rw [hh] at h
  simp only [if_true] at h
  by_cases k1 : Af p e = 1
  .rw [k1] at h h3 ⊢
   simp [CH] at h h3 ⊢
   subst h
   simp; omega
  by_cases k3 : Af p e = 3
  .rw [k3] at h h3 ⊢
   simp [CH] at h h3 ⊢
   subst h
   simp
   split
   .omega
   split
   .omega
   split <;> omega
  by_cases k2 : Af p e = 2
  .rw [k2] at h h3 ⊢
   simp [CH] at h h3 ⊢
   by_cases i0 : i = 0
   .subst i0
    simp at h
    rcases h with rfl | rfl <;> simp
   rw [if_neg i0] at h
   simp at h
   subst h
   simp; omega
  rw [if_neg k1, if_neg k3, if_neg k2] at h; simp at h
theorem SU : ∀ {l : List Cx} {w : Cx}, l.Pairwise (fun a b => a.out ≠ b.out) -> w ∈ l -> WZ l w.out = some w
 | a :: l, w, hp, hm => by
  rw [List.pairwise_cons] at hp
  unfold WZ
  rw [List.find?_cons]
  rcases List.mem_cons.1 hm with rfl | hm
  .simp
  have := hp.1 w hm
  have e : (a.out == w.out) = false := beq_eq_false_iff_ne.2 this
  simp only [e]
  exact SU hp.2 hm
section
variable {p : AH} {n : CK}
structure Zr (p : AH) (a s : Int) (x : AC) (st : List Aq) (nd : List AM) (r : AT) (t : List Aq) : Prop where
 frm : r.frm = s
 guards : r.guards = []
 zone : r.zone = []
 holds : r.holds = []
 bare : r.bare = false
 steps : r.steps = st ++ t
 ne : t ≠ []
 len : r.steps.length <= 12
 all : DK p a (some x) st nd t = some r.needs
 tail : ∀ l, t.getLast? = some l -> MJ p r.fin r.to l = true
theorem Oe (s a : Int) : ∀ (k : Nat) (st : List Aq) (nd : List AM) (x : AC) (r : AT), st.length + k = 13 -> r ∈ Md p s k st nd x (a :: st.map (·.elem)) -> ∃ t, Zr p a s x st nd r t /\ ∃ u t', t = u :: t' /\ u.elem = x.elem /\ u.in_ = x.fin
 | 0, st, nd, x, r, hk, hr => by simp [Md] at hr
 | k + 1, st, nd, x, r, hk, hr => by
  rw [MH] at hr
  by_cases hm : x.elem ∈ a :: st.map (·.elem) \/ st.length = 12
  .rw [if_pos hm] at hr; simp at hr
  rw [if_neg hm] at hr
  have hm1 : x.elem ∉ a :: st.map (·.elem) := fun h => hm (.inl h)
  have hm2 : ¬ (x.elem ≠ x.elem \/ x.fin ≠ x.fin \/ x.elem = a \/ x.elem ∈ st.map (·.elem)) := by
   rintro (h1 | h1 | h1 | h1)
   .exact h1 rfl
   .exact h1 rfl
   .exact hm1 (by rw [h1]; simp)
   exact hm1 (List.mem_cons_of_mem _ h1)
  have hlen : st.length < 12 := by
   have : st.length ≠ 12 := fun h => hm (.inr h)
   omega
  by_cases k4 : Af p x.elem = 4
  .rw [if_pos k4] at hr
   simp at hr
   subst hr
   refine ⟨[⟨x.elem, x.fin, -1⟩], ⟨rfl, rfl, rfl, rfl, rfl, rfl, by simp, by simp [Hm]; omega, ?_, ?_⟩, _, _, rfl, rfl, rfl⟩
   .simp only [DK, if_neg hm2, if_pos k4, Hm, true_and, if_true]
   intro l hl
   simp at hl
   subst hl
   simp [MJ, k4, Hm]
  rw [if_neg k4] at hr
  obtain ⟨w, hw, hr⟩ := List.mem_flatMap.1 hr
  have hway := SU (Qi p x.elem x.fin) hw
  unfold Hd at hr
  by_cases hrd : 0 <= Az p ⟨x.elem, w.out⟩
  .rw [if_pos hrd] at hr
   simp at hr
   subst hr
   refine ⟨[⟨x.elem, x.fin, w.out⟩], ⟨rfl, rfl, rfl, rfl, rfl, rfl, by simp, by simp [Hm]; omega, ?_, ?_⟩, _, _, rfl, rfl, rfl⟩
   .unfold DK; rw [if_neg hm2, if_neg k4, hway]; simp [DK, Hm]
   intro l hl
   simp at hl
   subst hl
   simp [MJ, k4, Hm, hrd]
  rw [if_neg hrd] at hr
  cases hnx : Ao p ⟨x.elem, w.out⟩ with
  | none =>
   rw [hnx] at hr
   simp at hr
   subst hr
   refine ⟨[⟨x.elem, x.fin, w.out⟩], ⟨rfl, rfl, rfl, rfl, rfl, rfl, by simp, by simp [Hm]; omega, ?_, ?_⟩, _, _, rfl, rfl, rfl⟩
   .unfold DK; rw [if_neg hm2, if_neg k4, hway]; simp [DK, Hm]
   intro l hl
   simp at hl
   subst hl
   simp [MJ, k4, Hm, hrd, hnx]
  | some y =>
   rw [hnx] at hr
   have hmm : a :: st.map (·.elem) ++ [x.elem] = a :: (st ++ [(⟨x.elem, x.fin, w.out⟩ : Aq)]).map (·.elem) := by simp
   simp only at hr
   rw [hmm] at hr
   obtain ⟨t, ht, u, t', htu, -, -⟩ := Oe s a k (st ++ [⟨x.elem, x.fin, w.out⟩]) (II nd x.elem w.pos) y r (by simp; omega) hr
   refine ⟨⟨x.elem, x.fin, w.out⟩ :: t, ⟨ht.frm, ht.guards, ht.zone, ht.holds, ht.bare, by rw [ht.steps]; simp, by simp, ht.len, ?_, ?_⟩, _, _, rfl, rfl, rfl⟩
   .unfold DK
    rw [if_neg hm2, if_neg k4, hway]
    dsimp only
    rw [if_neg (fun h => hrd h.2), hnx]
    exact ht.all
   intro l hl
   refine ht.tail l ?_
   rw [htu] at hl ⊢
   rwa [List.getLast?_cons_cons] at hl
theorem Ga {s : Int} {r : AT} (h : r ∈ F5 p s) : Ti p r = true /\ r.frm = s /\ r.guards = [] /\ r.zone = [] /\ r.holds = [] /\ r.bare = false /\ r.steps.length <= 12 /\ 1 <= r.steps.length /\ r.needs.length <= 12 := by
 unfold F5 at h
 cases hi : Aj p.signals s with
 | none => rw [hi] at h; simp at h
 | some sg =>
  rw [hi] at h
  simp only at h
  cases hx : Ao p sg.at_ with
  | none => rw [hx] at h; simp at h
  | some y =>
   rw [hx] at h
   simp only at h
   obtain ⟨t, ht, -⟩ := Oe s sg.at_.elem 13 [] [] y r rfl (by simpa using h)
   have hst : r.steps = t := by rw [ht.steps]; rfl
   have hlen : 1 <= r.steps.length := by
    rw [hst]
    exact List.length_pos_iff.2 ht.ne
   have hl2 := ht.len
   have hnl := Pe ht.all
   rw [<- hst] at hnl
   simp only [List.length_nil] at hnl
   refine ⟨?_, ht.frm, ht.guards, ht.zone, ht.holds, ht.bare, ht.len, hlen, by omega⟩
   unfold Ti
   rw [ht.frm, hi]
   simp only
   rw [if_neg (by omega), hx, hst, ht.all]
   obtain ⟨l, hl⟩ : ∃ l, t.getLast? = some l := by
    rw [List.getLast?_eq_getElem?]
    rw [hst] at hlen
    exact ⟨_, List.getElem?_eq_getElem (by omega)⟩
   simp only [hl, ht.tail l hl, decide_true, Bool.and_true]
theorem Qk (s a : Int) (k : Nat) (st : List Aq) (nd : List AM) (x : AC) (w : Cx) (r : AT) (hk : st.length + (k + 1) = 13) (h : r ∈ Hd p s k st nd x (a :: st.map (·.elem)) w) : r.steps[st.length]? = some ⟨x.elem, x.fin, w.out⟩ := by
 unfold Hd at h
 split at h
 .simp at h; subst h; simp [Hm]
 split at h
 .simp at h; subst h; simp [Hm]
 rename_i y hy
 have hmm : a :: st.map (·.elem) ++ [x.elem] = a :: (st ++ [(⟨x.elem, x.fin, w.out⟩ : Aq)]).map (·.elem) := by simp
 rw [hmm] at h
 obtain ⟨t, ht, -⟩ := Oe s a k _ _ y r (by simp; omega) h
 rw [ht.steps]; simp
theorem Ql (s a : Int) : ∀ (k : Nat) (st : List Aq) (nd : List AM) (x : AC), st.length + k = 13 -> (Md p s k st nd x (a :: st.map (·.elem))).Nodup
 | 0, st, nd, x, hk => by simp [Md]
 | k + 1, st, nd, x, hk => by
  rw [MH]
  split
  .simp
  split
  .simp
  unfold List.Nodup; rw [List.pairwise_flatMap]
  refine ⟨fun w hw => ?_, ?_⟩
  .unfold Hd
   split
   .simp
   split
   .simp
   rename_i y hy
   have hmm : a :: st.map (·.elem) ++ [x.elem] = a :: (st ++ [(⟨x.elem, x.fin, w.out⟩ : Aq)]).map (·.elem) := by simp
   rw [hmm]
   exact Ql s a k _ _ y (by simp; omega)
  refine (Qi p x.elem x.fin).imp fun {w v} hwv => ?_
  rintro r hr1 r2 hr2 rfl
  have h1 := Qk s a k st nd x w r (by omega) hr1
  have h2 := Qk s a k st nd x v r (by omega) hr2
  rw [h1] at h2
  simp at h2
  exact hwv h2
theorem VV (s : Int) : (F5 p s).Nodup := by
 unfold F5
 split
 .simp
 split
 .simp
 rename_i sg _ _ y _
 have := Ql (p := p) s sg.at_.elem 13 [] [] y rfl
 simpa using this
end
end Go.E
/- Plain Lean: RoadOfs, RoadAlls, RoadIsOne, RoadTurned and RoadEach answer true, for every argument. No condition. -/
namespace Go.E
open Go
theorem Zs {n : Int} (h : (Lit.int .u8 n).wf = true) : 0 <= n /\ n <= 255 /\ Ab n = n := by
 have : 0 <= n /\ n <= 255 := by simpa [Lit.wf, IntKind.min, IntKind.max, IntKind.signed, IntKind.bits] using h
 exact ⟨this.1, this.2, by rw [CX] <;> omega⟩
section
variable {p : AH} {n : CK}
theorem Xn (s : Int) : (F5 p s).length <= 2 ^ 13 := by
 unfold F5
 split
 .simp
 split
 .simp
 exact QE p s 13 _ _ _ _
def Hf (p : AH) (i : Nat) : List AT := (List.range i).flatMap fun (s : Nat) => F5 p (s : Int)
def KP (p : AH) : List AT := Hf p p.signals.length
theorem NL (i : Nat) : Hf p (i + 1) = Hf p i ++ F5 p (i : Int) := by
 unfold Hf
 rw [List.range_succ, List.flatMap_append]; simp
theorem Wa {i : Nat} {r : AT} (h : r ∈ Hf p i) : ∃ s : Int, r ∈ F5 p s := by
 obtain ⟨s, _, hs⟩ := List.mem_flatMap.1 h
 exact ⟨_, hs⟩
theorem Qm {i : Nat} : ∀ {j : Nat}, i <= j -> (Hf p i).length <= (Hf p j).length
  | 0, h => by have : i = 0 := by omega
               subst this; exact Nat.le_refl _
  | j + 1, h => by
    by_cases e : i = j + 1
    . subst e; exact Nat.le_refl _
    have := Qm (i := i) (j := j) (by omega)
    rw [NL, List.length_append]; omega
def DG (p : AH) : List AT × Int := if 64 < (KP p).length then ([], 3) else (KP p, 0)
theorem UV (hv : CR p) : JN p = some (DG p) := by
 have hs := hv.ns
 unfold JN
 obtain ⟨b, h1, h2⟩ := B4 (l := p.signals) (step := Ev p) (Post := fun b => b = DG p) (fun i o => o = Hf p i /\ o.length <= 64) (c := [])
  (fun o ho => by
   refine ⟨DG p, ?_, rfl⟩
   unfold DG KP
   rw [<- ho.1, if_neg (by omega)]
   simp [Ev])
  (fun i a o ha ho => by
   have hi := Bh ha
   have h2 := Xn (p := p) (i : Int)
   have hb : o.length + (F5 p (i : Int)).length <= 4294967296 := by have := ho.2; omega
   have hlen : (o ++ F5 p (i : Int)) = Hf p (i + 1) := by rw [NL, ho.1]
   by_cases c : 64 < (o ++ F5 p (i : Int)).length
   .refine .inl ⟨([], 3), ?_, ?_⟩
    .have d : decide (64 < ((o ++ F5 p (i : Int)).length : Int)) = true := by simp only [decide_eq_true_eq]; omega
     simp only [Ev, Bl ha, cond_true, XF hv.few, Option.bind_some, BS hb, d]
    unfold DG KP
    have := Qm (p := p) (show i + 1 <= p.signals.length by omega)
    rw [hlen] at c
    rw [if_pos (by omega)]
   refine .inr ⟨o ++ F5 p (i : Int), ?_, hlen, by omega⟩
   have d : decide (64 < ((o ++ F5 p (i : Int)).length : Int)) = false := by simp only [decide_eq_false_iff_not]; omega
   simp only [Ev, Bl ha, cond_true, XF hv.few, Option.bind_some, BS hb, d, cond_false, AX (show i < 1000000000 by omega)])
  ⟨by simp [Hf], by simp⟩
 rw [h1, h2]
theorem SV {r : AT} (h : r ∈ (DG p).1) : ∃ s : Int, r ∈ F5 p s := by
 unfold DG at h
 split at h
 .simp at h
 exact Wa h
end
end Go.E
/- Plain Lean: RoadRuns answers true, for every argument. No condition. -/
namespace Go.E
open Go
def Wb (pos : List Int) (e : Int) : Int := (Aj pos e).getD 0
section
variable {p : AH} {n : CK}
theorem UW (p : AH) (e i : Int) : CD p e i = [] \/ (∃ w, CD p e i = [w]) \/ CD p e i = [⟨1, 1⟩, ⟨2, 2⟩] := by
 unfold CD
 split
 .split
  .exact .inr (.inl ⟨_, rfl⟩)
  split
  .exact .inr (.inl ⟨_, rfl⟩)
  split
  .split
   .exact .inr (.inr rfl)
   exact .inr (.inl ⟨_, rfl⟩)
  exact .inl rfl
 exact .inl rfl
theorem UX {e i x : Int} {w : Cx} (hw : w ∈ CD p e i) (hx : w.pos = 0 \/ w.pos = x) : BN p e i x = some w.out := by
 unfold BN
 rcases UW p e i with h | ⟨v, h⟩ | h
 .rw [h] at hw; simp at hw
 .rw [h] at hw ⊢
  simp at hw
  subst hw
  simp only [CV, if_pos hx]
 rw [h] at hw ⊢
 simp at hw
 rcases hw with rfl | rfl
 .simp only [CV, if_pos hx]
 have : x = 2 := by simp at hx; omega
 subst this
 simp [CV]
theorem NM {e i x o : Int} (h : BN p e i x = some o) : ∃ w ∈ CD p e i, w.out = o /\ (w.pos = 0 \/ w.pos = x) := by
 unfold BN at h
 have key : ∀ l : List Cx, CV l x = some o -> ∃ w ∈ l, w.out = o /\ (w.pos = 0 \/ w.pos = x) := by
  intro l
  induction l with
  | nil => intro h; simp [CV] at h
  | cons w l ih =>
   intro h
   unfold CV at h
   split at h
   .rename_i hx
    exact ⟨w, by simp, by simpa using h, hx⟩
   obtain ⟨v, hv, h1⟩ := ih h
   exact ⟨v, by simp [hv], h1⟩
 exact key _ h
theorem UY {e : Int} (h : Af p e ≠ 0) : 0 <= e /\ e < p.elems.length := by
 unfold Af at h
 cases hi : Aj p.elems e with
 | none => rw [hi] at h; simp at h
 | some a => exact QB hi
theorem Kl {r : AT} (h : Ti p r = true) : ∃ sg nd l, Aj p.signals r.frm = some sg /\ 1 <= r.steps.length /\ r.steps.length <= 12 /\ DK p sg.at_.elem (Ao p sg.at_) [] [] r.steps = some nd /\ r.steps.getLast? = some l /\ MJ p r.fin r.to l = true /\ r.needs = nd := by
 unfold Ti at h
 cases hi : Aj p.signals r.frm with
 | none => rw [hi] at h; cases h
 | some sg =>
  rw [hi] at h
  simp only at h
  split at h
  .cases h
  cases hs : DK p sg.at_.elem (Ao p sg.at_) [] [] r.steps with
  | none => rw [hs] at h; cases h
  | some nd =>
   rw [hs] at h
   cases hl : r.steps.getLast? with
   | none => rw [hl] at h; cases h
   | some l =>
    rw [hl] at h
    simp only [Bool.and_eq_true, decide_eq_true_eq] at h
    exact ⟨sg, nd, l, rfl, by omega, by omega, hs, rfl, h.1, h.2⟩
end
end Go.E
/- Plain Lean: RoadRuns answers true, for every argument. No condition. -/
namespace Go.E
open Go
section
variable {p : AH} {n : CK}
end
end Go.E
/- Plain Lean: RoadWhole answers true, for every argument. No condition. -/
namespace Go.E
open Go
section
variable {p : AH} {n : CK}
end
end Go.E
/- Reach hands the keys of a map out in whatever order and sorts them: what it answers has no order in it; the example that the laws of sides AF at. No condition. -/
namespace Go.E
open Go Go.Proofs
theorem OB {a b : List Int} (h : a.Perm b) : FR a = FR b :=
 List.Perm.eq_of_pairwise (le := fun a b : Int => a <= b) (fun a b _ _ h1 h2 => Int.le_antisymm h1 h2) (Jt a) (Jt b) ((ES a).trans (h.trans (ES b).symm))
theorem IF {α : Type} : ∀ {l : List α} {j : Nat} {y : α}, l[j]? = some y -> (y :: l.eraseIdx j).Perm l
 | x :: l, 0, y, h => by
  rw [List.getElem?_cons_zero] at h
  cases h
  rw [List.eraseIdx_cons_zero]
 | x :: l, j + 1, y, h => by
  rw [List.getElem?_cons_succ] at h
  rw [List.eraseIdx_cons_succ]
  exact (List.Perm.swap x y _).trans ((IF h).cons x)
set_option maxRecDepth 100000
end Go.E
/- Plain Lean: the ports on the sides of a road, and what is its own: the program's answer and the document's are one (laws SidePorts, SideOwns). No condition. -/
namespace Go.E
open Go
theorem Wf {l : List Aq} {e : Int} : decide (e ∈ l.map (·.elem)) = (l.find? fun s => s.elem == e).isSome := by
 induction l with
 | nil => simp
 | cons a l ih =>
  rw [List.find?_cons]
  by_cases c : a.elem = e
  .simp [c]
  have : (a.elem == e) = false := beq_eq_false_iff_ne.2 c
  rw [this]
  simp only [List.map_cons, List.mem_cons, Ne.symm c, false_or]
  exact ih
theorem Yf (r : AT) (hl : r.steps.length < 1000000) (e : Int) : MA r e = some (decide (e ∈ r.steps.map (·.elem))) := by
 unfold MA
 obtain ⟨t, h1, h2⟩ := MI (l := r.steps) (f := fun s => s.elem == e) hl (step := HS r e) (by simp [HS]) (fun i a ha => by
  have := Bh ha
  simp only [HS, NH, Bl ha, cond_true, Ai, ha, Option.bind_some, AX (show i < 1000000000 by omega)]
  by_cases c : a.elem = e
  .simp [c]
  have : (a.elem == e) = false := beq_eq_false_iff_ne.2 c
  simp [this])
 rw [h1, Wf]
 simp only [Option.bind_some, Option.some.injEq]
 rcases h2 with ⟨rfl, h2⟩ | ⟨a, h0, h2, _⟩
 .rw [h2]; rfl
 rw [h2]; simp [h0]
theorem Xo (r : AT) (hl : r.steps.length < 1000000) (e : Int) : JO r e = some (decide (e ∈ r.steps.map (·.elem))) := by
 unfold JO
 simp only [VU r hl, Option.bind_some, RS (r.steps.map (·.elem)) (by simpa using hl)]
theorem Km {α β γ : Type} (B : Nat) {l : List α} (f : α -> List β) (hf : ∀ a, (f a).length <= 4) (hl : l.length <= 100000) {step : Int × List β -> Option (Int × List β ⊕ γ)} {fin : List β -> γ}
  (h0 : ∀ o, step ((l.length : Int), o) = some (.inr (fin o))) (h1 : ∀ (i : Nat) a o, l[i]? = some a -> o.length <= B + 400000 -> step ((i : Int), o) = some (.inl (((i + 1 : Nat) : Int), o ++ f a))) (o : List β) (ho : o.length <= B) :
  AQ step ((0 : Int), o) = some (fin (o ++ l.flatMap f)) := by
 have hlen : ∀ i, ((l.take i).flatMap f).length <= i * 4 := by
  intro i
  induction i with
  | zero => simp
  | succ i ih =>
   rw [List.take_add_one, List.flatMap_append, List.length_append]
   cases h : l[i]? with
   | none => simp only [Option.toList_none, List.flatMap_nil, List.length_nil]; omega
   | some a =>
    have := hf a
    simp only [Option.toList_some, List.flatMap_cons, List.flatMap_nil, List.append_nil]
    omega
 obtain ⟨b, h2, rfl⟩ := B4 (l := l) (step := step) (Post := fun b => b = fin (o ++ l.flatMap f)) (fun i c => c = o ++ (l.take i).flatMap f) (c := o)
  (fun c hc => ⟨fin c, h0 c, by rw [hc, List.take_length]⟩)
  (fun i a c ha hc => by
   have hi := Bh ha
   have := hlen i
   refine .inr ⟨c ++ f a, h1 i a c ha (by rw [hc, List.length_append]; omega), ?_⟩
   rw [hc, List.take_add_one, ha]
   simp only [Option.toList_some, List.flatMap_append, List.flatMap_cons, List.flatMap_nil, List.append_nil, List.append_assoc])
  (by simp)
 exact h2
section
variable {p : AH} {n : CK}
def I5 (p : AH) (s : Aq) : List Int :=
 if Af p s.elem = 2 then [Ab (3 - (if s.out > s.in_ then s.out else s.in_))] else if Af p s.elem = 3 then (if 1 < s.in_ then [0, 1] else [2, 3]) else []
def I6 (p : AH) (e : Int) (k : Int) : List AC := if (Ao p ⟨e, k⟩).isSome then [⟨e, k⟩] else []
def JU (p : AH) (s : Aq) : List AC := (I5 p s).flatMap (I6 p s.elem)
def Db (p : AH) (l : List Aq) : List AC := l.flatMap (JU p)
theorem NQ (s : Aq) : (I5 p s).length <= 2 := by
 unfold I5
 split
 .simp
 split
 .split <;> simp
 simp
theorem Qo (e k : Int) : (I6 p e k).length <= 1 := by unfold I6; split <;> simp
theorem MK (s : Aq) : (JU p s).length <= 2 := by
 have := JS (I6 p s.elem) 1 (I5 p s) fun k _ => Qo s.elem k
 have := NQ (p := p) s
 unfold JU
 omega
theorem ML (l : List Aq) : (Db p l).length <= l.length * 2 := JS _ 2 l fun s _ => MK s
theorem Wg (hn : Ct p n) (s : Aq) (c : Int × List AC) (ks : List Int) (hk : ks.length <= 10) (o : List AC) (ho : o.length <= 400000) :
  AQ (F3 n c s ks) (0, o) = some (.inl (Ab (c.1 + 1), o ++ ks.flatMap (I6 p s.elem))) := by
 refine Km 400000 (l := ks) (I6 p s.elem) (fun k => by have := Qo (p := p) s.elem k; omega) (by omega) (fin := fun o => (Sum.inl (Ab (c.1 + 1), o) : (Int × List AC) ⊕ List AC)) (fun o => ?_) (fun i a o ha hb => ?_) o ho
 .simp only [F3, CF, cond_false]
 have := Bh ha
 simp only [F3, Bl ha, cond_true, Ai, ha, Option.bind_some, Od hn, AX (show i < 1000000000 by omega)]
 unfold I6
 cases (Ao p ⟨s.elem, a⟩).isSome with
 | true => simp [BS (show o.length + [(⟨s.elem, a⟩ : AC)].length <= 4294967296 by simp; omega)]
 | false => simp
theorem Wh (hn : Ct p n) (r : AT) (hl : r.steps.length <= 1000) : KL n r = some (Db p r.steps) := by
 unfold KL
 rw [show Db p r.steps = ([] : List AC) ++ r.steps.flatMap (JU p) from rfl]
 refine Km 0 (l := r.steps) (JU p) (fun s => by have := MK (p := p) s; omega) (by omega) (fin := fun o => o) (fun o => ?_) (fun i s o ha hb => ?_) [] (by simp)
 .simp only [H9, CF, cond_false]
 have hi := Bh ha
 simp only [H9, Bl ha, cond_true, Ai, ha, Option.bind_some, Oc hn]
 have e : (bif (Af p s.elem == 2) then some [Ab (3 - (if s.out > s.in_ then s.out else s.in_))] else bif (Af p s.elem == 3) then bif decide (1 < s.in_) then some [0, 1] else some [2, 3] else some ([] : List Int) : Option (List Int)) = some (I5 p s) := by
  unfold I5
  by_cases c2 : Af p s.elem = 2
  .simp [c2]
  have b2 : (Af p s.elem == 2) = false := beq_eq_false_iff_ne.2 c2
  by_cases c3 : Af p s.elem = 3
  .by_cases d : 1 < s.in_ <;> simp [b2, c2, c3, d]
  have b3 : (Af p s.elem == 3) = false := beq_eq_false_iff_ne.2 c3
  simp [b2, b3, c2, c3]
 rw [e]
 have hk := NQ (p := p) s
 simp only [Option.bind_some, Wg hn s ((i : Int), o) (I5 p s) (by omega) o (by omega), AX (show i < 1000000000 by omega)]
 rfl
theorem VW (hv : CR p) (e : Int) (c : Int × List AC) (ks : List Int) (hk : ks.length <= 10) (o : List AC) (ho : o.length <= 400000) :
  AQ (Ew p c (ks.map fun k => (⟨e, k⟩ : AC))) (0, o) = some (.inl (Ab (c.1 + 1), o ++ ks.flatMap (I6 p e))) := by
 have hj := hv.nj
 have e1 : ks.flatMap (I6 p e) = (ks.map fun k => (⟨e, k⟩ : AC)).flatMap fun x => if (Ao p x).isSome then [x] else [] := by
  rw [List.flatMap_map]; rfl
 rw [e1]
 refine Km 400000 (l := ks.map fun k => (⟨e, k⟩ : AC)) (fun x => if (Ao p x).isSome then [x] else []) (fun k => by split <;> simp) (by simp; omega) (fin := fun o => (Sum.inl (Ab (c.1 + 1), o) : (Int × List AC) ⊕ List AC)) (fun o => ?_) (fun i a o ha hb => ?_) o ho
 .simp only [Ew, CF, cond_false]
 have hi := Bh ha
 rw [List.length_map] at hi
 simp only [Ew, Bl ha, cond_true, Ai, ha, Option.bind_some, Ce p (by omega), AX (show i < 1000000000 by omega)]
 cases (Ao p a).isSome with
 | true => simp [BS (show o.length + [a].length <= 4294967296 by simp; omega)]
 | false => simp
theorem VX (hv : CR p) (r : AT) (hl : r.steps.length <= 1000) : HF p r = some (Db p r.steps) := by
 unfold HF
 rw [show Db p r.steps = ([] : List AC) ++ r.steps.flatMap (JU p) from rfl]
 refine Km 0 (l := r.steps) (JU p) (fun s => by have := MK (p := p) s; omega) (by omega) (fin := fun o => o) (fun o => ?_) (fun i s o ha hb => ?_) [] (by simp)
 .simp only [Gp, CF, cond_false]
 have hi := Bh ha
 have w1 : Ab (0 + 1) = 1 := by decide
 have w3 : Ab (2 + 1) = 3 := by decide
 simp only [Gp, Bl ha, cond_true, Ai, ha, Option.bind_some, KO]
 have e : (bif (Af p s.elem == 2) then (BP ([] : List AC) [(⟨s.elem, Ab (3 - (if s.out > s.in_ then s.out else s.in_))⟩ : AC)]).bind fun y => some y else bif (Af p s.elem == 3) then ((bif decide (2 <= s.in_) then some 0 else some 2 : Option (Int))).bind fun (t : Int) => (BP ([] : List AC) [(⟨s.elem, t⟩ : AC), (⟨s.elem, Ab (t + 1)⟩ : AC)]).bind fun y => some y else some ([] : List AC) : Option (List AC)) = some ((I5 p s).map fun k => (⟨s.elem, k⟩ : AC)) := by
  unfold I5
  by_cases c2 : Af p s.elem = 2
  .simp [c2, BP]
  have b2 : (Af p s.elem == 2) = false := beq_eq_false_iff_ne.2 c2
  by_cases c3 : Af p s.elem = 3
  .by_cases d : 1 < s.in_
   .have d2 : decide (2 <= s.in_) = true := by simp; omega
    simp only [b2, c2, c3, d, d2, cond_false, cond_true, if_false, if_true, beq_self_eq_true, Option.bind_some, w1, BP, List.length_nil, List.length_cons, List.nil_append, List.map_cons, List.map_nil]
    simp
   have d2 : decide (2 <= s.in_) = false := by simp; omega
   simp only [b2, c2, c3, d, d2, cond_false, cond_true, if_false, if_true, beq_self_eq_true, Option.bind_some, w3, BP, List.length_nil, List.length_cons, List.nil_append, List.map_cons, List.map_nil]
   simp
  have b3 : (Af p s.elem == 3) = false := beq_eq_false_iff_ne.2 c3
  simp [b2, b3, c2, c3]
 rw [e]
 have hk := NQ (p := p) s
 simp only [Option.bind_some, VW hv s.elem ((i : Int), o) (I5 p s) (by omega) o (by omega), AX (show i < 1000000000 by omega)]
 rfl
theorem JV {s : Int} {r : AT} (h : r ∈ F5 p s) : r.steps.length <= 12 := (Ga h).2.2.2.2.2.2.1
end
end Go.E
/- Plain Lean: which ports lie on the sides of a road (law SideApart). No condition. -/
namespace Go.E
open Go
section
variable {p : AH} {n : CK}
theorem Xp (k : Int) : 0 <= CH k /\ CH k <= 4 := by
 unfold CH
 repeat' split
 all_goals omega
end
end Go.E
/- Plain Lean: what the sides of a road reach, told without an order (Me, Ju): the program's answer. No condition. -/
namespace Go.E
open Go
def Bc (vis : List (AC × Bool)) (x : AC) : Bool := (AV vis x).getD false
theorem FU (vis : List (AC × Bool)) (x y : AC) : Bc (Au x true vis) y = true ↔ y = x \/ Bc vis y = true := by
 unfold Bc
 rw [Cr]
 by_cases e : y = x <;> simp [e]
theorem K5 {α : Type} {P P' : α -> Bool} (hpp : ∀ z, P' z = true -> P z = true) : ∀ l : List α, (l.filter P').length <= (l.filter P).length /\ ∀ x ∈ l, P x = true -> P' x = false -> (l.filter P').length + 1 <= (l.filter P).length
 | [] => ⟨Nat.le_refl _, by simp⟩
 | a :: l => by
  obtain ⟨h1, h2⟩ := K5 hpp l
  rw [List.filter_cons, List.filter_cons]
  by_cases c : P' a = true
  .rw [if_pos c, if_pos (hpp a c)]
   simp only [List.length_cons]
   refine ⟨by omega, fun x hx hp hp' => ?_⟩
   rcases List.mem_cons.1 hx with rfl | hx
   .rw [c] at hp'; cases hp'
   have := h2 x hx hp hp'; omega
  rw [if_neg c]
  by_cases d : P a = true
  .rw [if_pos d]
   simp only [List.length_cons]
   exact ⟨by omega, fun x hx hp hp' => by omega⟩
  rw [if_neg d]
  refine ⟨h1, fun x hx hp hp' => ?_⟩
  rcases List.mem_cons.1 hx with rfl | hx
  .exact absurd hp d
  exact h2 x hx hp hp'
section
variable {p : AH} {n : CK}
def Nx (p : AH) (shut : List Bool) (x : AC) : Bool := decide (0 <= Az p x) && (Aj shut (Az p x)).getD false
inductive Me (p : AH) (pos : List Int) (shut : List Bool) (st : List Aq) : AC -> Prop
 | init {x y : AC} : x ∈ Db p st -> Ao p x = some y -> Me p pos shut st y
 | step {x y : AC} {o : Int} : Me p pos shut st x -> x.elem ∉ st.map (·.elem) -> Nx p shut x = false -> Af p x.elem ≠ 4 -> BN p x.elem x.fin (Wb pos x.elem) = some o -> Ao p ⟨x.elem, o⟩ = some y -> Me p pos shut st y
def Ju (p : AH) (pos : List Int) (shut : List Bool) (st : List Aq) (e : Int) : Prop :=
 ∃ x, Me p pos shut st x /\ x.elem = e /\ e ∉ st.map (·.elem) /\ Nx p shut x = false /\ (Af p e = 4 \/ (BN p e x.fin (Wb pos e)).isSome = true)
variable {pos : List Int} {shut : List Bool} {r : AT}
theorem Me.from {st : List Aq} {y : AC} (h : Me p pos shut st y) : ∃ x, Ao p x = some y := by
 cases h with
 | init h1 h2 => exact ⟨_, h2⟩
 | step _ _ _ _ _ h2 => exact ⟨_, h2⟩
theorem VY {x : AC} (h : Cv p x = true) : 0 <= x.elem /\ x.elem < p.elems.length := by
 obtain ⟨h1, h2, h3⟩ := Ea h
 refine UY fun e => ?_
 rw [e] at h3
 simp [CH] at h3
 omega
def Pg (vis : List (AC × Bool)) (zone : List (Int × Bool)) (p : AH) (y : AC) : Prop := Bc vis y = true \/ (Af p y.elem = 4 /\ (AV zone y.elem).isSome = true)
def Uc (p : AH) (pos : List Int) (shut : List Bool) (st : List Aq) (q : List AC) (vis : List (AC × Bool)) (zone : List (Int × Bool)) (x : AC) : Prop :=
 x.elem ∉ st.map (·.elem) -> Nx p shut x = false -> Af p x.elem ≠ 4 /\ ∀ o, BN p x.elem x.fin (Wb pos x.elem) = some o -> (AV zone x.elem).isSome = true /\ ∀ y, Ao p ⟨x.elem, o⟩ = some y -> y ∈ q \/ Pg vis zone p y
def Gb (p : AH) (vis : List (AC × Bool)) : Nat := ((CE p).filter fun x => !Bc vis x).length
structure RI (p : AH) (pos : List Int) (shut : List Bool) (st : List Aq) (M k : Nat) (q : List AC) (vis : List (AC × Bool)) (zone : List (Int × Bool)) : Prop where
 arr : ∀ x ∈ q, Me p pos shut st x
 full : ∀ x, Bc vis x = true -> Uc p pos shut st q vis zone x
 init : ∀ x y, x ∈ Db p st -> Ao p x = some y -> y ∈ q \/ Pg vis zone p y
 zon : ∀ e, (AV zone e).isSome = true -> Ju p pos shut st e
 nodup : (zone.map (·.1)).Nodup
 len : zone.length <= k
 meas : k + q.length + 2 * Gb p vis <= M
theorem RI.next {st : List Aq} {M k : Nat} {x : AC} {q q' : List AC} {vis vis' : List (AC × Bool)} {zone zone' : List (Int × Bool)} (h : RI p pos shut st M k (x :: q) vis zone)
  (hq : ∀ y ∈ q, y ∈ q') (hq2 : ∀ y ∈ q', Me p pos shut st y) (hv : ∀ y, Bc vis y = true -> Bc vis' y = true) (hv2 : ∀ y, Bc vis' y = true -> Bc vis y = true \/ y = x)
  (hz : ∀ e, (AV zone e).isSome = true -> (AV zone' e).isSome = true) (hz2 : ∀ e, (AV zone' e).isSome = true -> Ju p pos shut st e) (hz3 : (zone'.map (·.1)).Nodup) (hz4 : zone'.length <= zone.length + 1)
  (hx : Pg vis' zone' p x) (hf : Bc vis' x = true -> Bc vis x = false -> Uc p pos shut st q' vis' zone' x) (hm : q'.length + 2 * Gb p vis' <= q.length + 2 * Gb p vis) : RI p pos shut st M (k + 1) q' vis' zone' := by
 have keep : ∀ y, (y ∈ x :: q \/ Pg vis zone p y) -> y ∈ q' \/ Pg vis' zone' p y := by
  rintro y (hy | hy | ⟨hy, hy2⟩)
  .rcases List.mem_cons.1 hy with rfl | hy
   .exact .inr hx
   exact .inl (hq y hy)
  .exact .inr (.inl (hv y hy))
  exact .inr (.inr ⟨hy, hz _ hy2⟩)
 refine ⟨hq2, fun y hy => ?_, fun a y ha hy => keep y (h.init a y ha hy), hz2, hz3, by have := h.len; omega, by have := h.meas; simp only [List.length_cons] at this; omega⟩
 have old : Bc vis y = true -> Uc p pos shut st q' vis' zone' y := fun hy => fun h1 h2 => by
  obtain ⟨g1, g2⟩ := h.full y hy h1 h2
  exact ⟨g1, fun o ho => ⟨hz _ (g2 o ho).1, fun z hz' => keep z ((g2 o ho).2 z hz')⟩⟩
 rcases hv2 y hy with hy' | rfl
 .exact old hy'
 cases c : Bc vis y with
 | true => exact old c
 | false => exact hf hy c
end
end Go.E
/- Plain Lean: the elements that Reach answers are those of Ju, ascending (laws SideShut, SideRuns). No condition. -/
namespace Go.E
open Go
section
variable {p : AH} {n : CK} {pos : List Int} {shut : List Bool} {r : AT}
theorem VZ {vis : List (AC × Bool)} (x : AC) : Gb p (Au x true vis) <= Gb p vis :=
 (K5 (fun z hz => by
  cases hs : Bc vis z with
  | false => rfl
  | true =>
   have := (FU vis x z).2 (.inr hs)
   simp only [this, Bool.not_true] at hz
   cases hz) (CE p)).1
theorem SX {vis : List (AC × Bool)} {x : AC} (hx : x ∈ CE p) (hv : Bc vis x = false) : Gb p (Au x true vis) + 1 <= Gb p vis :=
 (K5 (fun z hz => by
  cases hs : Bc vis z with
  | false => rfl
  | true =>
   have := (FU vis x z).2 (.inr hs)
   simp only [this, Bool.not_true] at hz
   cases hz) (CE p)).2 x hx (by simp [hv]) (by simp [(FU vis x x).2 (.inl rfl)])
def D9 (p : AH) (l : List AC) : List AC := l.map fun x => (Ao p x).getD ⟨0, 0⟩
theorem KQ {l : List Aq} {x : AC} (h : x ∈ Db p l) : ∃ y, Ao p x = some y := by
 unfold Db JU at h
 obtain ⟨s, _, h⟩ := List.mem_flatMap.1 h
 obtain ⟨k, _, h⟩ := List.mem_flatMap.1 h
 unfold I6 at h
 split at h
 .rename_i hs
  simp at h
  subst h
  exact Option.isSome_iff_exists.1 hs
 simp at h
theorem Qp {a b : List Bool} (h : ∀ j : Nat, a[j]? = some true -> b[j]? = some true) {x : AC} (hs : Nx p b x = false) : Nx p a x = false := by
 unfold Nx at *
 by_cases c : 0 <= Az p x
 .obtain ⟨i, hi⟩ := Int.eq_ofNat_of_zero_le c
  rw [hi] at hs ⊢
  simp only [Ai, Int.natCast_nonneg, decide_true, Bool.true_and] at hs ⊢
  cases ha : a[i]? with
  | none => rfl
  | some v =>
   cases v with
   | false => rfl
   | true => rw [h i ha] at hs; cases hs
 simp [c]
theorem Me.mono {a b : List Bool} (h : ∀ j : Nat, a[j]? = some true -> b[j]? = some true) {st : List Aq} {x : AC} (hx : Me p pos b st x) : Me p pos a st x := by
 induction hx with
 | init h1 h2 => exact .init h1 h2
 | step h1 h2 h3 h4 h5 h6 ih => exact .step ih h2 (Qp h h3) h4 h5 h6
theorem Ju.mono {a b : List Bool} (h : ∀ j : Nat, a[j]? = some true -> b[j]? = some true) {st : List Aq} {e : Int} (hx : Ju p pos b st e) : Ju p pos a st e := by
 obtain ⟨x, h1, h2, h3, h4, h5⟩ := hx
 exact ⟨x, h1.mono h, h2, h3, Qp h h4, h5⟩
theorem Ju.range (hv : CR p) {st : List Aq} {e : Int} (h : Ju p pos shut st e) : 0 <= e /\ e < p.elems.length := by
 obtain ⟨x, h1, rfl, _⟩ := h
 obtain ⟨w, hw⟩ := h1.from
 exact VY (hv.join.next hw)
end
end Go.E
/- Plain Lean: what is reached is in order, outside the road, and no more if more signals are shut (law SideShut); a run that comes in from the side begins in it (law SideRuns). No condition. -/
namespace Go.E
open Go
section
variable {p : AH} {n : CK} {pos : List Int} {shut : List Bool} {r : AT}
end
end Go.E
/- Plain Lean: a run that comes in from the side begins in an element that is reached (law SideRuns). No condition. -/
namespace Go.E
open Go
theorem MM {x : AC} : ∀ {l m : List Br}, x ∉ (l.flatMap fun j => [j.a, j.b]) -> CZ (l ++ m) x = CZ m x
 | [], m, _ => rfl
 | j :: l, m, h => by
  simp only [List.flatMap_cons, List.mem_append, List.mem_cons, List.not_mem_nil, or_false, not_or] at h
  obtain ⟨⟨h1, h2⟩, h3⟩ := h
  simp only [List.cons_append, CZ]
  rw [if_neg (fun e => h1 e.symm), if_neg (fun e => h2 e.symm)]
  exact MM h3
theorem OD {x y : AC} : ∀ {l : List Br}, CZ l x = some y -> ∃ l1 j l2, l = l1 ++ j :: l2 /\ ((j.a = x /\ j.b = y) \/ (j.b = x /\ j.a = y))
 | j :: l, h => by
  simp only [CZ] at h
  split at h
  .rename_i e; cases h; exact ⟨[], j, l, rfl, .inl ⟨e, rfl⟩⟩
  split at h
  .rename_i e; cases h; exact ⟨[], j, l, rfl, .inr ⟨e, rfl⟩⟩
  obtain ⟨l1, k, l2, e, hk⟩ := OD h
  exact ⟨j :: l1, k, l2, by rw [e]; rfl, hk⟩
section
variable {p : AH} {n : CK} {pos : List Int} {shut : List Bool} {r : AT}
theorem TA (hj : Gr p) : (CE p).Nodup := by
 rw [List.Nodup, List.pairwise_iff_getElem]
 intro i k hi hk hlt
 exact hj.dist k i _ _ hlt (List.getElem?_eq_getElem hk) (List.getElem?_eq_getElem hi)
theorem Qq (hj : Gr p) {x y : AC} (h : Ao p x = some y) : Ao p y = some x := by
 obtain ⟨l1, j, l2, e, hk⟩ := OD h
 have hnd := TA hj
 unfold CE at hnd
 unfold Ao
 rw [e] at hnd ⊢
 rw [List.flatMap_append, List.flatMap_cons, List.nodup_append] at hnd
 obtain ⟨_, h2, h3⟩ := hnd
 have ha : j.a ∉ l1.flatMap fun j => [j.a, j.b] := fun hm => h3 _ hm _ (by simp) rfl
 have hb : j.b ∉ l1.flatMap fun j => [j.a, j.b] := fun hm => h3 _ hm _ (by simp) rfl
 have hab : j.a ≠ j.b := by
  rw [List.nodup_append] at h2
  have := h2.1
  simpa using this
 rcases hk with ⟨rfl, rfl⟩ | ⟨rfl, rfl⟩
 .rw [MM hb]
  simp [CZ, hab]
 rw [MM ha]
 simp [CZ]
theorem Va {e i : Int} {w : Cx} (h : w ∈ CD p e i) : (⟨i, w.pos⟩ : Cx) ∈ CD p e w.out := by
 obtain ⟨f1, f2, f3, f4, f5, _⟩ := Qj h
 have hh : Cv p ⟨e, i⟩ = true := by simp [Cv, f3, f4]
 have hh2 : Cv p ⟨e, w.out⟩ = true := by simp [Cv, f1, f2]
 unfold CD at h ⊢
 rw [hh] at h
 rw [hh2]
 simp only [if_true] at h ⊢
 by_cases k1 : Af p e = 1
 .rw [if_pos k1] at h ⊢
  simp at h
  subst h
  simp; omega
 rw [if_neg k1] at h ⊢
 by_cases k3 : Af p e = 3
 .rw [if_pos k3] at h ⊢
  rw [k3] at f4
  simp [CH] at f4
  simp at h
  subst h
  have : i = 0 \/ i = 1 \/ i = 2 \/ i = 3 := by omega
  rcases this with rfl | rfl | rfl | rfl <;> simp
 rw [if_neg k3] at h ⊢
 by_cases k2 : Af p e = 2
 .rw [if_pos k2] at h ⊢
  rw [k2] at f4
  simp [CH] at f4
  by_cases i0 : i = 0
  .subst i0
   simp at h
   rcases h with rfl | rfl <;> simp
  rw [if_neg i0] at h
  simp at h
  subst h
  have : i = 1 \/ i = 2 := by omega
  rcases this with rfl | rfl <;> simp
 rw [if_neg k2] at h; simp at h
theorem NR {e i x o : Int} (h : BN p e i x = some o) : BN p e o x = some i := by
 obtain ⟨w, hw, rfl, hx⟩ := NM h
 have := Va hw
 exact UX this hx
end
end Go.E
/- Plain Lean: what the sides of a road reach: the document's answer and the program's are one (law SideReaches). No condition. -/
namespace Go.E
open Go
theorem Ud (l : List AC) (hl : l.length < 1000000) (x : AC) : Fj l x = some (decide (x ∈ l)) := by
 unfold Fj
 obtain ⟨b, h1, h2⟩ := Bu (l := l) (step := DP l x) (Post := fun b => b = decide (x ∈ l)) (fun _ y => y ≠ x) (fun good => ⟨false, by simp [DP], by
   symm; rw [decide_eq_false_iff_not]; intro hm
   obtain ⟨i, hi⟩ := List.getElem?_of_mem hm
   exact good i x hi rfl⟩) (fun i a ha _ => by
   have := Bh ha
   by_cases e : a = x
   .exact .inl ⟨true, by simp only [DP, Bl ha, cond_true, Ai, ha, Option.bind_some, e, beq_self_eq_true], by symm; rw [decide_eq_true_iff]; subst e; exact List.mem_of_getElem? ha⟩
   have : (a == x) = false := beq_eq_false_iff_ne.2 e
   exact .inr ⟨by simp only [DP, Bl ha, cond_true, Ai, ha, Option.bind_some, this, cond_false, AX (show i < 1000000000 by omega)], e⟩)
 rw [h1, h2]
section
variable {p : AH} {n : CK} {pos : List Int} {shut : List Bool} {r : AT}
theorem Q5 (p : AH) (e i x : Int) : GY p e i x = some ((BN p e i x).getD 0, (BN p e i x).isSome) := by
 unfold GY BN
 rw [Pb]
 simp only [Option.bind_some]
 have hl := Kj p e i
 refine JQ (γ := Unit) (CD p e i) (fun k _ => (k : Int)) (fun _ _ r => some ((CV r x).getD 0, (CV r x).isSome)) (fun _ => ?_) (fun k _ a r ha hi => ?_) ()
 .simp [F4, CV]
 simp only [F4, Ai, ha, Option.bind_some, Bl ha, cond_true, CV, D6]
 by_cases h1 : a.pos = 0
 .left; simp [h1]
 by_cases h2 : a.pos = x
 .left
  simp [h1, h2]
 right
 have : (a.pos == x) = false := beq_eq_false_iff_ne.2 h2
 exact ⟨(), by simp [h1, this, AX (show k < 1000000000 by omega)], by simp [h1, h2]⟩
theorem Mf {e f x o : Int} (h : BN p e f x = some o) : 0 <= o /\ o < CH (Af p e) := by
 obtain ⟨w, hw, rfl, _⟩ := NM h
 have := Qj hw
 exact ⟨this.1, this.2.1⟩
theorem Ue (p : AH) (e f x : Int) : JP p e f x = some ((BN p e f x).getD 0, (BN p e f x).isSome) := by
 unfold JP
 have he := Xp (Af p e)
 obtain ⟨b, h1, rfl⟩ := EG (step := IB p e f x) (Post := fun b => b = ((BN p e f x).getD 0, (BN p e f x).isSome)) (fun k i => i = (k : Int) /\ (k : Int) <= CH (Af p e) /\ ∀ o, BN p e f x = some o -> (k : Int) <= o) 5 (s := (0 : Int)) (by
  rintro k i ⟨rfl, h2, h3⟩
  simp only [IB, D7, IG, Option.bind_some]
  by_cases d : (k : Int) < CH (Af p e)
  .rw [decide_eq_true d]
   simp only [cond_true, Q5, Option.bind_some]
   by_cases c : BN p e (k : Int) x = some f
   .left
    refine ⟨_, ?_, rfl⟩
    rw [c, NR c]
    simp
   right
   refine ⟨by omega, ((k + 1 : Nat) : Int), ?_, rfl, by omega, fun o ho => ?_⟩
   .have w := AX (show k < 1000000000 by omega)
    cases ht : BN p e (k : Int) x with
    | none => simp only [Option.isSome_none, cond_false, Option.bind_some, w]
    | some v =>
     have hne : (v == f) = false := beq_eq_false_iff_ne.2 (fun hv => c (by rw [ht, hv]))
     simp only [Option.isSome_some, Option.getD_some, cond_true, Option.bind_some, hne, cond_false, w]
   have := h3 o ho
   have hne : (k : Int) ≠ o := fun hk => c (by rw [hk]; exact NR ho)
   omega
  left
  refine ⟨_, ?_, rfl⟩
  rw [decide_eq_false d]
  cases ht : BN p e f x with
  | none => rfl
  | some o =>
   have := h3 o ht
   have := Mf ht
   omega) ⟨rfl, by omega, fun o ho => (Mf ho).1⟩
 exact h1
end
end Go.E
/- The example that the laws of flanks AF at, reckoned by the kernel. No condition. -/
namespace Go.E
open Go Go.Proofs
set_option maxRecDepth 100000
end Go.E
/- The example that the laws of proofs AF at, reckoned by the kernel. No condition. -/
namespace Go.E
open Go Go.Proofs
set_option maxRecDepth 100000
end Go.E
/- Plain Lean: the flank of a road: how its search begins; a road without side ports (law FlankNone). No condition. -/
namespace Go.E
open Go
theorem IJ (l : List Int) (hl : l.length < 1000000) (x : Int) : BY l x = some (decide (x ∈ l)) := by
 unfold BY DZ
 obtain ⟨t, h1, h2⟩ := MI (l := l) (f := fun a => x == a) hl (step := Cy l x) (by simp [Cy]) (fun i a ha => by
  have := Bh ha
  simp only [Cy, Bl ha, cond_true, Ai, ha, Option.bind_some, AX (show i < 1000000000 by omega)]
  cases hb : (x == a) <;> simp)
 rw [h1]
 simp only [Option.bind_some, Option.some.injEq]
 rcases h2 with ⟨rfl, h2⟩ | ⟨a, h0, h2, _⟩
 .have : x ∉ l := fun h => by have := List.find?_eq_none.1 h2 x h; simp at this
  simp [this]
 have hm := List.mem_of_find?_eq_some h2
 have he := List.find?_some h2
 simp only [beq_iff_eq] at he
 subst he
 simp [h0, hm]
theorem Mg (l : List AM) (hl : l.length < 1000000) (x : AM) : CW l x = some (decide (x ∈ l)) := by
 unfold CW HE
 obtain ⟨t, h1, h2⟩ := MI (l := l) (f := fun a => x == a) hl (step := C0 l x) (by simp [C0]) (fun i a ha => by
  have := Bh ha
  simp only [C0, Bl ha, cond_true, Ai, ha, Option.bind_some, AX (show i < 1000000000 by omega)]
  cases hb : (x == a) <;> simp)
 rw [h1]
 simp only [Option.bind_some, Option.some.injEq]
 rcases h2 with ⟨rfl, h2⟩ | ⟨a, h0, h2, _⟩
 .have : x ∉ l := fun h => by have := List.find?_eq_none.1 h2 x h; simp at this
  simp [this]
 have hm := List.mem_of_find?_eq_some h2
 have he := List.find?_some h2
 simp only [beq_iff_eq] at he
 subst he
 simp [h0, hm]
section
variable {p : AH} {n : CK} {r : AT}
theorem OF (hv : CR p) (hn : Ct p n) (h1 : r.steps.length <= 12) (h2 : r.needs.length <= 1000) : Gn n r = AQ (B5 n r r.steps r.needs p) (false, [], [], [], [], (D9 p (Db p r.steps)).reverse) := by
 unfold Gn
 have e1 : HB r.steps = some r.steps := D8 _ (by omega)
 have e2 : BL r.needs = some r.needs := D8 _ (by omega)
 have e3 : Ij n = some p := by unfold Ij; rw [hn.plan, Th p hv.few]; rfl
 simp only [e1, e2, e3, Option.bind_some, Wh hn (⟨r.frm, r.to, r.fin, r.steps, r.needs, [], [], [], false⟩ : AT) (show r.steps.length <= 1000 by omega)]
 have hp := ML (p := p) r.steps
 generalize hL : Db p r.steps = L at hp
 have key : ∀ (k : Nat) (q : List AC), k <= L.length -> q = (D9 p (L.drop k)).reverse -> AQ (Fi n r r.steps r.needs p L) ((k : Int) - 1, q) = AQ (B5 n r r.steps r.needs p) (false, [], [], [], [], (D9 p L).reverse) := by
  intro k
  induction k with
  | zero =>
   intro q _ hq
   rw [List.drop_zero] at hq
   subst hq
   cases hr : AQ (B5 n r r.steps r.needs p) (false, [], [], [], [], (D9 p L).reverse) with
   | some b =>
    refine Cq ?_
    have d : decide ((0 : Int) <= ((0 : Nat) : Int) - 1) = false := by decide
    simp only [Fi, d, cond_false, hr, Option.map_some]
   | none =>
    rw [HY]
    have d : decide ((0 : Int) <= ((0 : Nat) : Int) - 1) = false := by decide
    simp only [Fi, d, cond_false, hr, Option.map_none]
  | succ k ih =>
   intro q hk hq
   obtain ⟨x, hx⟩ : ∃ x, L[k]? = some x := ⟨_, List.getElem?_eq_getElem (by omega)⟩
   have hql : q.length <= 24 := by rw [hq]; unfold D9; simp; omega
   have hd : L.drop k = x :: L.drop (k + 1) := by
    obtain ⟨h, e⟩ := List.getElem?_eq_some_iff.1 hx
    rw [List.drop_eq_getElem_cons h, e]
   rw [<- ih (q ++ [(Ao p x).getD ⟨0, 0⟩]) (by omega) (by rw [hd, hq]; unfold D9; simp)]
   refine CT ?_
   have d : decide ((0 : Int) <= (k : Int)) = true := decide_eq_true (by omega)
   have e : (((k + 1 : Nat) : Int) - 1) = (k : Int) := by omega
   have w : Ab ((k : Int) - 1) = (k : Int) - 1 := by rw [CX] <;> omega
   simp only [Fi, d, cond_true, e, Ai, hx, Option.bind_some, Od hn, BS (show q.length + [(Ao p x).getD (⟨0, 0⟩ : AC)].length <= 4294967296 by simp; omega), w]
 have w : Ab ((L.length : Int) - 1) = (L.length : Int) - 1 := by rw [CX] <;> omega
 rw [w]
 exact key L.length [] (Nat.le_refl _) (by simp [D9])
end
end Go.E
/- Plain Lean: the flank of a road: one round of its search; what holds behind it. No condition. -/
namespace Go.E
open Go
section
variable {p : AH} {n : CK} {r : AT}
def A5 (b : Bool) (z : List Int) (e : Int) : Bool × Bool × List Int := if e ∈ z then (true, b, z) else if 12 <= z.length then (false, true, z) else (true, b, z ++ [e])
def De (p : AH) (l : List AC) (x : AC) : List AC := match Ao p x with
 | some y => l ++ [y]
 | none => l
abbrev FS := Bool × List (AC × Bool) × List AM × List Int × List Int × List AC
def Jv (p : AH) (st : List Aq) (nd : List AM) (b : Bool) (vis : List (AC × Bool)) (g : List AM) (z h : List Int) (l : List AC) (x : AC) : FS :=
 if x.elem ∈ st.map (·.elem) \/ Bc vis x = true then (b, vis, g, z, h, l)
 else if 0 <= Az p x /\ p.hard = false then (b, Au x true vis, g, z, if Az p x ∈ h then h else h ++ [Az p x], l)
 else if Af p x.elem = 4 then (true, Au x true vis, g, z, h, l)
 else if Af p x.elem = 2 then
  if x.fin = 0 then ((A5 b z x.elem).2.1, Au x true vis, g, (A5 b z x.elem).2.2, h, if (A5 b z x.elem).1 then De p (De p l ⟨x.elem, 2⟩) ⟨x.elem, 1⟩ else l)
  else if ⟨x.elem, x.fin⟩ ∈ nd \/ ⟨x.elem, x.fin⟩ ∈ g then ((A5 b z x.elem).2.1, Au x true vis, g, (A5 b z x.elem).2.2, h, if (A5 b z x.elem).1 then De p l ⟨x.elem, 0⟩ else l)
  else (b, Au x true vis, if ⟨x.elem, Ab (3 - x.fin)⟩ ∈ g then g else g ++ [⟨x.elem, Ab (3 - x.fin)⟩], z, h, l)
 else match BN p x.elem x.fin 0 with
  | none => (b, Au x true vis, g, z, h, l)
  | some o => ((A5 b z x.elem).2.1, Au x true vis, g, (A5 b z x.elem).2.2, h, if (A5 b z x.elem).1 then De p l ⟨x.elem, o⟩ else l)
theorem Wi (b : Bool) (z : List Int) (e : Int) (hz : z.length <= 1000) : ((BY z e).bind fun y => bif y then some (true, b, z) else bif decide (12 <= (z.length : Int)) then some (false, true, z) else (BP z [e]).bind fun y' => some (true, b, y') : Option (Bool × Bool × List Int)) = some (A5 b z e) := by
 rw [IJ z (by omega)]
 unfold A5
 simp only [Option.bind_some]
 by_cases c : e ∈ z
 .rw [decide_eq_true c, if_pos c]; rfl
 rw [decide_eq_false c, if_neg c]
 by_cases d : 12 <= z.length
 .rw [if_pos d, decide_eq_true (show (12 : Int) <= (z.length : Int) by omega)]; rfl
 rw [if_neg d, decide_eq_false (show ¬ (12 : Int) <= (z.length : Int) by omega)]
 simp only [cond_false, BS (show z.length + [e].length <= 4294967296 by simp; omega), Option.bind_some]
theorem MO (hn : Ct p n) (l : List AC) (x : AC) (hl : l.length <= 1000000) : ((Cj n x).bind fun y => bif y.2 then (BP l [y.1]).bind fun y' => some y' else some l : Option (List AC)) = some (De p l x) := by
 rw [Od hn]
 unfold De
 cases Ao p x with
 | none => rfl
 | some y => simp only [Option.bind_some, Option.isSome_some, Option.getD_some, cond_true, BS (show l.length + [y].length <= 4294967296 by simp; omega)]
theorem NS (l : List AC) (x : AC) : (De p l x).length <= l.length + 1 := by unfold De; split <;> simp
theorem Ph (hn : Ct p n) (h1 : r.steps.length <= 12) (h2 : r.needs.length <= 1000) (b : Bool) (vis : List (AC × Bool)) (g : List AM) (z h : List Int) (l : List AC) (x : AC) (hg : g.length <= 1000) (hz : z.length <= 1000) (hh : h.length <= 1000) (hl : l.length <= 1000) :
  B5 n r r.steps r.needs p (b, vis, g, z, h, l ++ [x]) = some (.inl (Jv p r.steps r.needs b vis g z h l x)) := by
 have d : decide ((0 : Int) < (((l ++ [x]).length : Nat) : Int)) = true := by simp
 have w := Xl l x (by omega)
 have i1 := Yd x (rfl : l.length = l.length)
 have s1 := Ye x (rfl : l.length = l.length)
 have own := Yf (⟨r.frm, r.to, r.fin, r.steps, r.needs, g, z, h, b⟩ : AT) (show r.steps.length < 1000000 by omega) x.elem
 have tz := Wi b z x.elem hz
 have vb : (AV vis x).getD false = Bc vis x := rfl
 unfold B5 Jv
 simp only [d, cond_true, w, i1, s1, own, Option.bind_some, vb]
 by_cases c : x.elem ∈ r.steps.map (·.elem) \/ Bc vis x = true
 .rw [if_pos c]
  rcases c with c | c
  .rw [decide_eq_true c]; rfl
  rw [c]; cases decide (x.elem ∈ r.steps.map (·.elem)) <;> rfl
 rw [if_neg c]
 have c1 : x.elem ∉ r.steps.map (·.elem) := fun h => c (.inl h)
 have c2 : Bc vis x = false := by cases hs : Bc vis x with | false => rfl | true => exact absurd (.inr hs) c
 rw [decide_eq_false c1, c2]
 simp only [cond_false, Option.bind_some, VR hn]
 by_cases k1 : 0 <= Az p x /\ p.hard = false
 .rw [if_pos k1, decide_eq_true k1.1, k1.2]
  simp only [cond_true, Bool.not_false, Option.bind_some, IJ h (show h.length < 1000000 by omega)]
  by_cases m : Az p x ∈ h
  .rw [decide_eq_true m, if_pos m]; rfl
  rw [decide_eq_false m, if_neg m]
  simp only [Bool.not_false, cond_true, BS (show h.length + [Az p x].length <= 4294967296 by simp; omega), Option.bind_some]
 rw [if_neg k1]
 have eb : (bif decide (0 <= Az p x) then some (!p.hard) else some false : Option Bool) = some false := by
  by_cases a : 0 <= Az p x
  .rw [decide_eq_true a]
   cases hp : p.hard with
   | true => rfl
   | false => exact absurd ⟨a, hp⟩ k1
  rw [decide_eq_false a]; rfl
 simp only [eb, Option.bind_some, cond_false, Oc hn]
 by_cases k4 : Af p x.elem = 4
 .rw [if_pos k4, k4]; rfl
 rw [if_neg k4]
 have b4 : (Af p x.elem == 4) = false := beq_eq_false_iff_ne.2 k4
 simp only [b4, cond_false]
 by_cases k2 : Af p x.elem = 2
 .rw [if_pos k2, k2]
  simp only [beq_self_eq_true, cond_true]
  by_cases f0 : x.fin = 0
  .rw [if_pos f0]
   have bf : (x.fin == 0) = true := by simp [f0]
   simp only [bf, cond_true, tz, Option.bind_some]
   have q1 := NS (p := p) l ⟨x.elem, 2⟩
   cases ht : (A5 b z x.elem).1 with
   | true => simp only [cond_true, MO hn l ⟨x.elem, 2⟩ (by omega), Option.bind_some, MO hn (De p l ⟨x.elem, 2⟩) ⟨x.elem, 1⟩ (by omega), if_true]
   | false => simp only [cond_false, Option.bind_some, Bool.false_eq_true, if_false]
  rw [if_neg f0]
  have bf : (x.fin == 0) = false := beq_eq_false_iff_ne.2 f0
  simp only [bf, cond_false, Mg r.needs (show r.needs.length < 1000000 by omega), Mg g (show g.length < 1000000 by omega), Option.bind_some]
  have en : (bif decide ((⟨x.elem, x.fin⟩ : AM) ∈ r.needs) then some true else some (decide ((⟨x.elem, x.fin⟩ : AM) ∈ g)) : Option Bool) = some (decide ((⟨x.elem, x.fin⟩ : AM) ∈ r.needs \/ (⟨x.elem, x.fin⟩ : AM) ∈ g)) := by
   by_cases a : (⟨x.elem, x.fin⟩ : AM) ∈ r.needs
   .simp [a]
   simp [a]
  simp only [en, Option.bind_some]
  by_cases a : (⟨x.elem, x.fin⟩ : AM) ∈ r.needs \/ (⟨x.elem, x.fin⟩ : AM) ∈ g
  .rw [if_pos a, decide_eq_true a]
   simp only [cond_true, tz, Option.bind_some]
   cases ht : (A5 b z x.elem).1 with
   | true => simp only [cond_true, MO hn l ⟨x.elem, 0⟩ (by omega), Option.bind_some, if_true]
   | false => simp only [cond_false, Option.bind_some, Bool.false_eq_true, if_false]
  rw [if_neg a, decide_eq_false a]
  simp only [cond_false]
  by_cases m : (⟨x.elem, Ab (3 - x.fin)⟩ : AM) ∈ g
  .rw [decide_eq_true m, if_pos m]; rfl
  rw [decide_eq_false m, if_neg m]
  simp only [Bool.not_false, cond_true, BS (show g.length + [(⟨x.elem, Ab (3 - x.fin)⟩ : AM)].length <= 4294967296 by simp; omega), Option.bind_some]
 rw [if_neg k2]
 have b2 : (Af p x.elem == 2) = false := beq_eq_false_iff_ne.2 k2
 simp only [b2, cond_false, LS, S7 hn, Option.bind_some]
 cases ht : BN p x.elem x.fin 0 with
 | none => rfl
 | some o =>
  simp only [Option.isSome_some, cond_true, Option.getD_some, tz, Option.bind_some]
  cases htz : (A5 b z x.elem).1 with
  | true => simp only [cond_true, MO hn l ⟨x.elem, o⟩ (by omega), Option.bind_some, if_true]
  | false => simp only [cond_false, Bool.false_eq_true, if_false]
end
end Go.E
/- Plain Lean: the flank of a road: what holds of zone, guards and holds; the search ends (laws FlankAgain, FlankApart). No condition. -/
namespace Go.E
open Go
section
variable {p : AH} {n : CK} {r : AT}
structure Tj (p : AH) (st : List Aq) (z : List Int) : Prop where
 len : z.length <= 12
 nd : z.Nodup
 own : ∀ e ∈ z, e ∉ st.map (·.elem) /\ Af p e ≠ 4
 rng : ∀ e ∈ z, Af p e ≠ 0
structure XH (p : AH) (st : List Aq) (g : List AM) : Prop where
 ok : ∀ m ∈ g, m.elem ∉ st.map (·.elem) /\ Af p m.elem = 2 /\ (m.pos = 1 \/ m.pos = 2)
 nd : g.Pairwise (fun a b => a.elem ≠ b.elem)
theorem Wj {st : List Aq} {b : Bool} {z : List Int} {e : Int} (h : Tj p st z) (h1 : e ∉ st.map (·.elem)) (h2 : Af p e ≠ 4) (h3 : Af p e ≠ 0) : Tj p st (A5 b z e).2.2 := by
 unfold A5
 split
 .exact h
 rename_i hm
 split
 .exact h
 rename_i hl
 refine ⟨by simp; omega, ?_, fun a ha => ?_, fun a ha => ?_⟩
 .simp only
  rw [List.nodup_append]
  exact ⟨h.nd, by simp, fun a ha c hc => by simp at hc; subst hc; intro e; subst e; exact hm ha⟩
 .rcases List.mem_append.1 ha with ha | ha
  .exact h.own a ha
  simp at ha; subst ha; exact ⟨h1, h2⟩
 rcases List.mem_append.1 ha with ha | ha
 .exact h.rng a ha
 simp at ha; subst ha; exact h3
theorem Hn {x y : AC} (h : Ao p x = some y) : y ∈ CE p := NN h
theorem Kn {l : List AC} {x y : AC} (h : y ∈ De p l x) : y ∈ l \/ y ∈ CE p := by
 unfold De at h
 cases hx : Ao p x with
 | none => rw [hx] at h; exact .inl h
 | some z =>
  rw [hx] at h
  rcases List.mem_append.1 h with h | h
  .exact .inl h
  simp at h; subst h; exact .inr (Hn hx)
structure FI (p : AH) (st : List Aq) (M k : Nat) (vis : List (AC × Bool)) (g : List AM) (z h : List Int) (l : List AC) : Prop where
 zok : Tj p st z
 gok : XH p st g
 hold : p.hard = true -> h = []
 port : ∀ x ∈ l, x ∈ CE p
 lg : g.length <= k
 lh : h.length <= k
 meas : k + l.length + 3 * Gb p vis <= M
theorem Tk (hv : CR p) {st : List Aq} {nd : List AM} {M k : Nat} {b : Bool} {vis : List (AC × Bool)} {g : List AM} {z h : List Int} {l : List AC} {x : AC} (hi : FI p st M k vis g z h (l ++ [x])) {s : FS} (hs : s = Jv p st nd b vis g z h l x) :
  FI p st M (k + 1) s.2.1 s.2.2.1 s.2.2.2.1 s.2.2.2.2.1 s.2.2.2.2.2 := by
 have hm := hi.meas
 simp only [List.length_append, List.length_cons, List.length_nil] at hm
 have hx : x ∈ CE p := hi.port x (by simp)
 have hl : ∀ y ∈ l, y ∈ CE p := fun y hy => hi.port y (by simp [hy])
 have hlg := hi.lg
 have hlh := hi.lh
 have hul := VZ (p := p) (vis := vis) x
 have hhas : Cv p x = true := by
  obtain ⟨i, hi⟩ := List.mem_iff_getElem?.1 hx
  exact hv.join.has i x hi
 unfold Jv at hs
 by_cases c : x.elem ∈ st.map (·.elem) \/ Bc vis x = true
 .rw [if_pos c] at hs
  subst hs
  exact ⟨hi.zok, hi.gok, hi.hold, hl, by dsimp only; omega, by dsimp only; omega, by dsimp only; omega⟩
 rw [if_neg c] at hs
 have c1 : x.elem ∉ st.map (·.elem) := fun h => c (.inl h)
 have c2 : Bc vis x = false := by cases hs : Bc vis x with | false => rfl | true => exact absurd (.inr hs) c
 have hlt := SX hx c2
 by_cases k1 : 0 <= Az p x /\ p.hard = false
 .rw [if_pos k1] at hs
  subst hs
  refine ⟨hi.zok, hi.gok, fun hh => (by rw [k1.2] at hh; cases hh), hl, by dsimp only; omega, ?_, by dsimp only; omega⟩
  dsimp only
  split
  .omega
  simp; omega
 rw [if_neg k1] at hs
 by_cases k4 : Af p x.elem = 4
 .rw [if_pos k4] at hs
  subst hs
  exact ⟨hi.zok, hi.gok, hi.hold, hl, by dsimp only; omega, by dsimp only; omega, by dsimp only; omega⟩
 rw [if_neg k4] at hs
 have k0 : Af p x.elem ≠ 0 := fun e => by
  obtain ⟨f1, f2, f3⟩ := Ea hhas
  rw [e] at f3
  simp [CH] at f3
  omega
 have hz := Wj (b := b) hi.zok c1 k4 k0
 have p1 : ∀ y, (De p l y).length <= l.length + 1 := fun y => NS l y
 by_cases k2 : Af p x.elem = 2
 .rw [if_pos k2] at hs
  by_cases f0 : x.fin = 0
  .rw [if_pos f0] at hs
   subst hs
   refine ⟨hz, hi.gok, hi.hold, fun y hy => ?_, by dsimp only; omega, by dsimp only; omega, ?_⟩
   .dsimp only at hy
    split at hy
    .rcases Kn hy with hy | hy
     .rcases Kn hy with hy | hy
      .exact hl y hy
      exact hy
     exact hy
    exact hl y hy
   dsimp only
   have q1 := p1 ⟨x.elem, 2⟩
   have q2 := NS (p := p) (De p l ⟨x.elem, 2⟩) ⟨x.elem, 1⟩
   split <;> omega
  rw [if_neg f0] at hs
  by_cases a : (⟨x.elem, x.fin⟩ : AM) ∈ nd \/ (⟨x.elem, x.fin⟩ : AM) ∈ g
  .rw [if_pos a] at hs
   subst hs
   refine ⟨hz, hi.gok, hi.hold, fun y hy => ?_, by dsimp only; omega, by dsimp only; omega, ?_⟩
   .dsimp only at hy
    split at hy
    .rcases Kn hy with hy | hy
     .exact hl y hy
     exact hy
    exact hl y hy
   dsimp only
   have q1 := p1 ⟨x.elem, 0⟩
   split <;> omega
  rw [if_neg a] at hs
  subst hs
  obtain ⟨f1, f2, f3⟩ := Ea hhas
  rw [k2] at f3
  simp [CH] at f3
  have hw : Ab (3 - x.fin) = 3 - x.fin := by rw [CX] <;> omega
  refine ⟨hi.zok, ?_, hi.hold, hl, ?_, by dsimp only; omega, by dsimp only; omega⟩
  .dsimp only
   split
   .exact hi.gok
   rename_i hng
   refine ⟨fun m hm => ?_, ?_⟩
   .rcases List.mem_append.1 hm with hm | hm
    .exact hi.gok.ok m hm
    simp at hm; subst hm; exact ⟨c1, k2, by rw [hw]; simp only; omega⟩
   rw [List.pairwise_append]
   refine ⟨hi.gok.nd, by simp, fun m hm q hq => ?_⟩
   simp at hq
   subst hq
   intro he
   simp only at he
   obtain ⟨_, _, hp⟩ := hi.gok.ok m hm
   have e1 : m = ⟨x.elem, m.pos⟩ := by cases m; simp only at he; subst he; rfl
   by_cases e : m.pos = x.fin
   .rw [e] at e1; rw [e1] at hm; exact a (.inr hm)
   have : m.pos = 3 - x.fin := by omega
   rw [this, <- hw] at e1; rw [e1] at hm; exact hng hm
  dsimp only
  split
  .omega
  simp; omega
 rw [if_neg k2] at hs
 cases ht : BN p x.elem x.fin 0 with
 | none =>
  rw [ht] at hs
  subst hs
  exact ⟨hi.zok, hi.gok, hi.hold, hl, by dsimp only; omega, by dsimp only; omega, by dsimp only; omega⟩
 | some o =>
  rw [ht] at hs
  subst hs
  refine ⟨hz, hi.gok, hi.hold, fun y hy => ?_, by dsimp only; omega, by dsimp only; omega, ?_⟩
  .dsimp only at hy
   split at hy
   .rcases Kn hy with hy | hy
    .exact hl y hy
    exact hy
   exact hl y hy
  dsimp only
  have q1 := p1 ⟨x.elem, o⟩
  split <;> omega
end
end Go.E
/- Plain Lean: zone, guards and holds of a road's flank (law FlankApart). No condition. -/
namespace Go.E
open Go
section
variable {p : AH} {n : CK} {r : AT}
end
end Go.E
/- Plain Lean: one call of the document's search for the flank, in a clean form. No condition. -/
namespace Go.E
open Go
theorem Pi (l : List AM) (hl : l.length < 1000000) (x : AM) : Dh l x = some (decide (x ∈ l)) := by
 unfold Dh
 obtain ⟨b, h1, h2⟩ := Bu (l := l) (step := DQ l x) (Post := fun b => b = decide (x ∈ l)) (fun _ y => y ≠ x) (fun good => ⟨false, by simp [DQ], by
   symm; rw [decide_eq_false_iff_not]; intro hm
   obtain ⟨i, hi⟩ := List.getElem?_of_mem hm
   exact good i x hi rfl⟩) (fun i a ha _ => by
   have := Bh ha
   by_cases e : a = x
   .exact .inl ⟨true, by simp only [DQ, Bl ha, cond_true, Ai, ha, Option.bind_some, e, beq_self_eq_true], by symm; rw [decide_eq_true_iff]; subst e; exact List.mem_of_getElem? ha⟩
   have : (a == x) = false := beq_eq_false_iff_ne.2 e
   exact .inr ⟨by simp only [DQ, Bl ha, cond_true, Ai, ha, Option.bind_some, this, cond_false, AX (show i < 1000000000 by omega)], e⟩)
 rw [h1, h2]
section
variable {p : AH} {n : CK} {r : AT}
def Ed (p : AH) (r : AT) (g : List AM) (z h : List Int) (b : Bool) (met : List AC) : Aa := ⟨p, ⟨r.frm, r.to, r.fin, r.steps, r.needs, g, z, h, b⟩, met⟩
def Pj (p : AH) (rc : Aa × AC -> Option Aa) (S : Aa) (y : AC) : Option Aa := match Ao p y with
 | some q => rc (S, q)
 | none => some S
theorem Vb (b : Bool) (z : List Int) (e : Int) (hz : z.length <= 1000) : ((Dd z e).bind fun y => bif y then some (true, b, z) else bif decide (12 <= (z.length : Int)) then some (false, true, z) else (BP z [e]).bind fun y' => some (true, b, y') : Option (Bool × Bool × List Int)) = some (A5 b z e) := by
 rw [RS z (by omega)]
 unfold A5
 simp only [Option.bind_some]
 by_cases c : e ∈ z
 .rw [decide_eq_true c, if_pos c]; rfl
 rw [decide_eq_false c, if_neg c]
 by_cases d : 12 <= z.length
 .rw [if_pos d, decide_eq_true (show (12 : Int) <= (z.length : Int) by omega)]; rfl
 rw [if_neg d, decide_eq_false (show ¬ (12 : Int) <= (z.length : Int) by omega)]
 simp only [cond_false, BS (show z.length + [e].length <= 4294967296 by simp; omega), Option.bind_some]
def RT (p : AH) (r : AT) (rc : Aa × AC -> Option Aa) (g : List AM) (z h : List Int) (b : Bool) (met : List AC) (x : AC) : Option Aa :=
 if x.elem ∈ r.steps.map (·.elem) \/ x ∈ met then some (Ed p r g z h b met)
 else if 0 <= Az p x /\ p.hard = false then some (Ed p r g z (if Az p x ∈ h then h else h ++ [Az p x]) b (met ++ [x]))
 else if Af p x.elem = 4 then some (Ed p r g z h true (met ++ [x]))
 else if Af p x.elem = 2 then
  if x.fin = 0 then
   if (A5 b z x.elem).1 then (Pj p rc (Ed p r g (A5 b z x.elem).2.2 h (A5 b z x.elem).2.1 (met ++ [x])) ⟨x.elem, 1⟩).bind fun S => Pj p rc S ⟨x.elem, 2⟩
   else some (Ed p r g (A5 b z x.elem).2.2 h (A5 b z x.elem).2.1 (met ++ [x]))
  else if ⟨x.elem, x.fin⟩ ∈ r.needs \/ ⟨x.elem, x.fin⟩ ∈ g then
   if (A5 b z x.elem).1 then Pj p rc (Ed p r g (A5 b z x.elem).2.2 h (A5 b z x.elem).2.1 (met ++ [x])) ⟨x.elem, 0⟩
   else some (Ed p r g (A5 b z x.elem).2.2 h (A5 b z x.elem).2.1 (met ++ [x]))
  else some (Ed p r (if ⟨x.elem, Ab (3 - x.fin)⟩ ∈ g then g else g ++ [⟨x.elem, Ab (3 - x.fin)⟩]) z h b (met ++ [x]))
 else if (A5 b z x.elem).1 then Pj p rc (Ed p r g (A5 b z x.elem).2.2 h (A5 b z x.elem).2.1 (met ++ [x])) ⟨x.elem, (BN p x.elem x.fin 0).getD 0⟩
 else some (Ed p r g (A5 b z x.elem).2.2 h (A5 b z x.elem).2.1 (met ++ [x]))
theorem Vc (hv : CR p) (h1 : r.steps.length <= 12) (h2 : r.needs.length <= 1000) (rc : Aa × AC -> Option Aa) (g : List AM) (z h : List Int) (b : Bool) (met : List AC) (x : AC) (hrc : ¬ (x.elem ∈ r.steps.map (·.elem) \/ x ∈ met) -> ∀ q S', Ao p ⟨x.elem, 1⟩ = some q -> rc (Ed p r g (A5 b z x.elem).2.2 h (A5 b z x.elem).2.1 (met ++ [x]), q) = some S' -> S'.p = p) (hg : g.length <= 1000) (hz : z.length <= 1000) (hh : h.length <= 1000) (hm : met.length <= 1000) :
  CL rc (Ed p r g z h b met) x = RT p r rc g z h b met x := by
 have hj := hv.nj
 have hns := hv.ns
 have own := Xo (⟨r.frm, r.to, r.fin, r.steps, r.needs, g, z, h, b⟩ : AT) (show r.steps.length < 1000000 by omega) x.elem
 have tz := Vb b z x.elem hz
 have hmet := BS (l := met) (m := [x]) (by simp; omega)
 unfold CL RT Ed
 simp only [own, Ud met (show met.length < 1000000 by omega), Option.bind_some]
 have e1 : (bif decide (x.elem ∈ r.steps.map (·.elem)) then some true else some (decide (x ∈ met)) : Option Bool) = some (decide (x.elem ∈ r.steps.map (·.elem) \/ x ∈ met)) := by
  by_cases a : x.elem ∈ r.steps.map (·.elem)
  .rw [decide_eq_true a]; simp [a]
  rw [decide_eq_false a]; simp [a]
 simp only [e1, Option.bind_some]
 by_cases c : x.elem ∈ r.steps.map (·.elem) \/ x ∈ met
 .rw [if_pos c, decide_eq_true c]; rfl
 rw [if_neg c, decide_eq_false c]
 simp only [cond_false, hmet, Option.bind_some, HT p (show p.signals.length < 1000000 by omega)]
 by_cases k1 : 0 <= Az p x /\ p.hard = false
 .rw [if_pos k1, decide_eq_true k1.1, k1.2]
  simp only [cond_true, Bool.not_false, Option.bind_some, RS h (show h.length < 1000000 by omega)]
  by_cases m : Az p x ∈ h
  .rw [decide_eq_true m, if_pos m]; rfl
  rw [decide_eq_false m, if_neg m]
  simp only [Bool.not_false, cond_true, BS (show h.length + [Az p x].length <= 4294967296 by simp; omega), Option.bind_some]
 rw [if_neg k1]
 have eb : (bif decide (0 <= Az p x) then some (!p.hard) else some false : Option Bool) = some false := by
  by_cases a : 0 <= Az p x
  .rw [decide_eq_true a]
   cases hp : p.hard with
   | true => rfl
   | false => exact absurd ⟨a, hp⟩ k1
  rw [decide_eq_false a]; rfl
 simp only [eb, Option.bind_some, cond_false, KO]
 by_cases k4 : Af p x.elem = 4
 .rw [if_pos k4, k4]; rfl
 rw [if_neg k4]
 have b4 : (Af p x.elem == 4) = false := beq_eq_false_iff_ne.2 k4
 simp only [b4, cond_false, tz, Option.bind_some, Ce p (show p.joins.length < 1000000 by omega), Ue]
 by_cases k2 : Af p x.elem = 2
 .rw [if_pos k2, k2]
  simp only [beq_self_eq_true, cond_true]
  by_cases f0 : x.fin = 0
  .rw [if_pos f0]
   have bf : (x.fin == 0) = true := by simp [f0]
   simp only [bf, cond_true, tz, Option.bind_some]
   cases ht : (A5 b z x.elem).1 with
   | false => simp only [cond_false, Option.bind_some, Bool.false_eq_true, if_false]
   | true =>
    simp only [cond_true, if_true]
    unfold Pj
    cases hy : Ao p ⟨x.elem, 1⟩ with
    | none =>
     simp only [Option.isSome_none, cond_false, Option.bind_some, Ce p (show p.joins.length < 1000000 by omega)]
     cases hy2 : Ao p ⟨x.elem, 2⟩ with
     | none => rfl
     | some q2 =>
      simp only [Option.isSome_some, cond_true, Option.getD_some]
      cases hr2 : rc (⟨p, ⟨r.frm, r.to, r.fin, r.steps, r.needs, g, (A5 b z x.elem).2.2, h, (A5 b z x.elem).2.1⟩, met ++ [x]⟩, q2) with
      | none => simp only [hr2, Option.bind_none]
      | some S => simp only [hr2, Option.bind_some]
    | some q =>
     simp only [Option.isSome_some, cond_true, Option.getD_some]
     cases hr : rc (⟨p, ⟨r.frm, r.to, r.fin, r.steps, r.needs, g, (A5 b z x.elem).2.2, h, (A5 b z x.elem).2.1⟩, met ++ [x]⟩, q) with
     | none => rfl
     | some S =>
      obtain ⟨Sp, Sr, Sm⟩ := S
      have hp := hrc c _ _ hy hr
      simp only at hp
      subst hp
      simp only [Option.bind_some, Ce Sp (show Sp.joins.length < 1000000 by omega)]
      cases hy2 : Ao Sp ⟨x.elem, 2⟩ with
      | none => rfl
      | some q2 =>
       simp only [Option.isSome_some, cond_true, Option.getD_some, Option.bind_some]
       cases hr2 : rc (⟨Sp, Sr, Sm⟩, q2) with
       | none => simp only [hr2, Option.bind_none]
       | some S => simp only [hr2, Option.bind_some]
  rw [if_neg f0]
  have bf : (x.fin == 0) = false := beq_eq_false_iff_ne.2 f0
  simp only [bf, cond_false, Pi r.needs (show r.needs.length < 1000000 by omega), Pi g (show g.length < 1000000 by omega), Option.bind_some]
  have en : (bif !decide ((⟨x.elem, x.fin⟩ : AM) ∈ r.needs) then some (!decide ((⟨x.elem, x.fin⟩ : AM) ∈ g)) else some false : Option Bool) = some (decide (¬ ((⟨x.elem, x.fin⟩ : AM) ∈ r.needs \/ (⟨x.elem, x.fin⟩ : AM) ∈ g))) := by
   by_cases a : (⟨x.elem, x.fin⟩ : AM) ∈ r.needs
   .simp [a]
   by_cases a2 : (⟨x.elem, x.fin⟩ : AM) ∈ g <;> simp [a, a2]
  simp only [en, Option.bind_some]
  by_cases a : (⟨x.elem, x.fin⟩ : AM) ∈ r.needs \/ (⟨x.elem, x.fin⟩ : AM) ∈ g
  .rw [if_pos a, decide_eq_false (show ¬ ¬ _ from fun hn => hn a)]
   simp only [cond_false, tz, Option.bind_some]
   cases ht : (A5 b z x.elem).1 with
   | false => simp only [cond_false, Option.bind_some, Bool.false_eq_true, if_false]
   | true =>
    simp only [cond_true, if_true]
    unfold Pj
    cases hy : Ao p ⟨x.elem, 0⟩ with
    | none => rfl
    | some q =>
     simp only [Option.isSome_some, cond_true, Option.getD_some]
     cases hr : rc (⟨p, ⟨r.frm, r.to, r.fin, r.steps, r.needs, g, (A5 b z x.elem).2.2, h, (A5 b z x.elem).2.1⟩, met ++ [x]⟩, q) with
     | none => rfl
     | some S => rfl
  rw [if_neg a, decide_eq_true a]
  simp only [cond_true]
  by_cases m : (⟨x.elem, Ab (3 - x.fin)⟩ : AM) ∈ g
  .rw [decide_eq_true m, if_pos m]; rfl
  rw [decide_eq_false m, if_neg m]
  simp only [Bool.not_false, cond_true, BS (show g.length + [(⟨x.elem, Ab (3 - x.fin)⟩ : AM)].length <= 4294967296 by simp; omega), Option.bind_some]
 rw [if_neg k2]
 have b2 : (Af p x.elem == 2) = false := beq_eq_false_iff_ne.2 k2
 simp only [b2, cond_false]
 cases ht : (A5 b z x.elem).1 with
 | false => simp only [cond_false, Bool.false_eq_true, if_false]
 | true =>
  simp only [cond_true, if_true]
  unfold Pj
  cases hy : Ao p ⟨x.elem, (BN p x.elem x.fin 0).getD 0⟩ with
  | none => rfl
  | some q =>
   simp only [Option.isSome_some, cond_true, Option.getD_some]
   cases hr : rc (⟨p, ⟨r.frm, r.to, r.fin, r.steps, r.needs, g, (A5 b z x.elem).2.2, h, (A5 b z x.elem).2.1⟩, met ++ [x]⟩, q) with
   | none => rfl
   | some S => rfl
end
end Go.E
/- Plain Lean: the document's search for the flank and the program's loop: one call is as good as one port on the stack. No condition. -/
namespace Go.E
open Go
section
variable {p : AH} {n : CK} {r : AT}
noncomputable def MP (m : Nat) : Aa × AC -> Option Aa := NG (fun (rc : (Aa × AC) -> Option Aa) (a : (Aa × AC)) => CL rc a.1 a.2) m
structure CI (p : AH) (vis : List (AC × Bool)) (g : List AM) (z h : List Int) (met : List AC) : Prop where
 mt : ∀ y, y ∈ met ↔ Bc vis y = true
 lz : z.length <= 12
 lg : g.length + Gb p vis <= 500
 lh : h.length + Gb p vis <= 500
 lm : met.length + Gb p vis <= 500
theorem Qr {b : Bool} {z : List Int} {e : Int} (h : z.length <= 12) : (A5 b z e).2.2.length <= 12 := by
 unfold A5
 split
 .exact h
 split
 .exact h
 simp; omega
theorem CI.mark {vis : List (AC × Bool)} {g g' : List AM} {z z' h h' : List Int} {met : List AC} {x : AC} (hi : CI p vis g z h met) (hx : x ∈ CE p) (hv : Bc vis x = false) (hz : z'.length <= 12) (hg : g'.length <= g.length + 1) (hh : h'.length <= h.length + 1) : CI p (Au x true vis) g' z' h' (met ++ [x]) := by
 have hlt := SX hx hv
 have h1 := hi.lg; have h2 := hi.lh; have h3 := hi.lm
 refine ⟨fun y => ?_, hz, by omega, by omega, by simp; omega⟩
 rw [List.mem_append, hi.mt, FU]
 simp only [List.mem_singleton]
 exact Or.comm
def Wk (p : AH) (n : CK) (r : AT) (m : Nat) (b : Bool) (vis : List (AC × Bool)) (g : List AM) (z h : List Int) (met : List AC) (x : AC) : Prop :=
 ∃ b' vis' g' z' h' met', MP m (Ed p r g z h b met, x) = some (Ed p r g' z' h' b' met') /\ CI p vis' g' z' h' met' /\ Gb p vis' <= Gb p vis /\
  ∀ l k, FI p r.steps 700 k vis g z h (l ++ [x]) -> ∃ k', AQ (B5 n r r.steps r.needs p) (b, vis, g, z, h, l ++ [x]) = AQ (B5 n r r.steps r.needs p) (b', vis', g', z', h', l) /\ FI p r.steps 700 k' vis' g' z' h' l
theorem Ko {m : Nat} (ih : ∀ b vis g z h met x, Gb p vis < m -> x ∈ CE p -> CI p vis g z h met -> Wk p n r m b vis g z h met x) {b : Bool} {vis : List (AC × Bool)} {g : List AM} {z h : List Int} {met : List AC} (y : AC) (hu : Gb p vis < m) (hi : CI p vis g z h met) :
  ∃ b' vis' g' z' h' met', Pj p (MP m) (Ed p r g z h b met) y = some (Ed p r g' z' h' b' met') /\ CI p vis' g' z' h' met' /\ Gb p vis' <= Gb p vis /\
   ∀ l k, FI p r.steps 700 k vis g z h (De p l y) -> ∃ k', AQ (B5 n r r.steps r.needs p) (b, vis, g, z, h, De p l y) = AQ (B5 n r r.steps r.needs p) (b', vis', g', z', h', l) /\ FI p r.steps 700 k' vis' g' z' h' l := by
 unfold Pj De
 cases hy : Ao p y with
 | none => exact ⟨b, vis, g, z, h, met, rfl, hi, Nat.le_refl _, fun l k hf => ⟨k, rfl, hf⟩⟩
 | some q => exact ih b vis g z h met q hu (Hn hy) hi
theorem SY {x : AC} (h : Cv p x = true) (k2 : Af p x.elem ≠ 2) (k4 : Af p x.elem ≠ 4) : ∃ o, BN p x.elem x.fin 0 = some o := by
 obtain ⟨f1, f2, f3⟩ := Ea h
 have h' : Cv p ⟨x.elem, x.fin⟩ = true := h
 unfold BN CD
 rw [h']
 simp only [if_true]
 by_cases k1 : Af p x.elem = 1
 .rw [if_pos k1]; exact ⟨_, by simp [CV]; rfl⟩
 by_cases k3 : Af p x.elem = 3
 .rw [if_neg k1, if_pos k3]; exact ⟨_, by simp [CV]; rfl⟩
 have : CH (Af p x.elem) = 0 := by unfold CH; rw [if_neg k1, if_neg k2, if_neg k3, if_neg k4]
 omega
theorem Xq (hv : CR p) (hn : Ct p n) (h1 : r.steps.length <= 12) (h2 : r.needs.length <= 1000) : ∀ (m : Nat) (b : Bool) (vis : List (AC × Bool)) (g : List AM) (z h : List Int) (met : List AC) (x : AC), Gb p vis < m -> x ∈ CE p -> CI p vis g z h met -> Wk p n r m b vis g z h met x := by
 intro m
 induction m with
 | zero => intro b vis g z h met x hu; omega
 | succ m ih =>
  intro b vis g z h met x hu hx hi
  have lz := hi.lz; have lg := hi.lg; have lh := hi.lh; have lm := hi.lm
  have hhas : Cv p x = true := by
   obtain ⟨i, hi⟩ := List.mem_iff_getElem?.1 hx
   exact hv.join.has i x hi
  have hdec : ¬ (x.elem ∈ r.steps.map (·.elem) \/ x ∈ met) -> Bc vis x = false /\ Gb p (Au x true vis) < m := fun c => by
   have : Bc vis x = false := by
    cases hs : Bc vis x with
    | false => rfl
    | true => exact absurd (.inr ((hi.mt x).2 hs)) c
   have := SX hx this
   exact ⟨by assumption, by omega⟩
  have hcs : MP (m + 1) (Ed p r g z h b met, x) = RT p r (MP m) g z h b met x := by
   show CL (MP m) (Ed p r g z h b met) x = _
   refine Vc hv h1 h2 (MP m) g z h b met x (fun c q S' hq hS => ?_) (by omega) (by omega) (by omega) (by omega)
   obtain ⟨hs, hu'⟩ := hdec c
   obtain ⟨b', vis', g', z', h', met', e, _⟩ := ih (A5 b z x.elem).2.1 (Au x true vis) g (A5 b z x.elem).2.2 h (met ++ [x]) q hu' (Hn hq) (hi.mark hx hs (Qr lz) (by omega) (by omega))
   rw [e] at hS; cases hS; rfl
  unfold Wk
  rw [hcs]
  have round : ∀ l k, FI p r.steps 700 k vis g z h (l ++ [x]) -> ∀ s, s = Jv p r.steps r.needs b vis g z h l x -> AQ (B5 n r r.steps r.needs p) (b, vis, g, z, h, l ++ [x]) = AQ (B5 n r r.steps r.needs p) s /\ FI p r.steps 700 (k + 1) s.2.1 s.2.2.1 s.2.2.2.1 s.2.2.2.2.1 s.2.2.2.2.2 := fun l k hf s hs => by
   have hm := hf.meas
   simp only [List.length_append, List.length_cons, List.length_nil] at hm
   refine ⟨CT ?_, Tk hv hf hs⟩
   rw [hs]
   exact Ph hn h1 h2 b vis g z h l x (by omega) (by omega) (by omega) (by omega)
  unfold RT
  by_cases c : x.elem ∈ r.steps.map (·.elem) \/ x ∈ met
  .rw [if_pos c]
   refine ⟨b, vis, g, z, h, met, rfl, hi, Nat.le_refl _, fun l k hf => ⟨k + 1, ?_⟩⟩
   have := round l k hf _ rfl
   unfold Jv at this
   rw [if_pos (by rw [<- hi.mt]; exact c)] at this
   exact this
  rw [if_neg c]
  obtain ⟨hs, hu'⟩ := hdec c
  have hul := VZ (p := p) (vis := vis) x
  have c' : ¬ (x.elem ∈ r.steps.map (·.elem) \/ Bc vis x = true) := by rw [<- hi.mt]; exact c
  unfold Jv at round
  simp only [if_neg c'] at round
  by_cases k1 : 0 <= Az p x /\ p.hard = false
  .rw [if_pos k1]
   simp only [if_pos k1] at round
   refine ⟨b, Au x true vis, g, z, _, met ++ [x], rfl, hi.mark hx hs lz (by omega) (by split <;> simp), hul, fun l k hf => ⟨k + 1, round l k hf _ rfl⟩⟩
  rw [if_neg k1]
  simp only [if_neg k1] at round
  by_cases k4 : Af p x.elem = 4
  .rw [if_pos k4]
   simp only [if_pos k4] at round
   exact ⟨true, Au x true vis, g, z, h, met ++ [x], rfl, hi.mark hx hs lz (by omega) (by omega), hul, fun l k hf => ⟨k + 1, round l k hf _ rfl⟩⟩
  rw [if_neg k4]
  simp only [if_neg k4] at round
  have hc2 := hi.mark (g' := g) (z' := (A5 b z x.elem).2.2) (h' := h) hx hs (Qr lz) (by omega) (by omega)
  have stay : ¬ (A5 b z x.elem).1 = true -> ∀ (P : Prop), True := fun _ _ => trivial
  by_cases k2 : Af p x.elem = 2
  .rw [if_pos k2]
   simp only [if_pos k2] at round
   by_cases f0 : x.fin = 0
   .rw [if_pos f0]
    simp only [if_pos f0] at round
    by_cases t1 : (A5 b z x.elem).1 = true
    .rw [if_pos t1]
     simp only [if_pos t1] at round
     obtain ⟨b1, v1, g1, z1, q1, m1, e1, i1, u1, s1⟩ := Ko ih (b := (A5 b z x.elem).2.1) ⟨x.elem, 1⟩ hu' hc2
     obtain ⟨b2, v2, g2, z2, q2, m2, e2, i2, u2, s2⟩ := Ko ih (b := b1) (vis := v1) ⟨x.elem, 2⟩ (by omega) i1
     refine ⟨b2, v2, g2, z2, q2, m2, by rw [e1]; exact e2, i2, by omega, fun l k hf => ?_⟩
     obtain ⟨r1, r2⟩ := round l k hf _ rfl
     obtain ⟨k3, r3, r4⟩ := s1 _ _ r2
     obtain ⟨k5, r5, r6⟩ := s2 _ _ r4
     exact ⟨k5, r1.trans (r3.trans r5), r6⟩
    rw [if_neg t1]
    simp only [if_neg t1] at round
    exact ⟨_, Au x true vis, g, _, h, met ++ [x], rfl, hc2, hul, fun l k hf => ⟨k + 1, round l k hf _ rfl⟩⟩
   rw [if_neg f0]
   simp only [if_neg f0] at round
   by_cases a : (⟨x.elem, x.fin⟩ : AM) ∈ r.needs \/ (⟨x.elem, x.fin⟩ : AM) ∈ g
   .rw [if_pos a]
    simp only [if_pos a] at round
    by_cases t1 : (A5 b z x.elem).1 = true
    .rw [if_pos t1]
     simp only [if_pos t1] at round
     obtain ⟨b1, v1, g1, z1, q1, m1, e1, i1, u1, s1⟩ := Ko ih (b := (A5 b z x.elem).2.1) ⟨x.elem, 0⟩ hu' hc2
     refine ⟨b1, v1, g1, z1, q1, m1, e1, i1, by omega, fun l k hf => ?_⟩
     obtain ⟨r1, r2⟩ := round l k hf _ rfl
     obtain ⟨k3, r3, r4⟩ := s1 _ _ r2
     exact ⟨k3, r1.trans r3, r4⟩
    rw [if_neg t1]
    simp only [if_neg t1] at round
    exact ⟨_, Au x true vis, g, _, h, met ++ [x], rfl, hc2, hul, fun l k hf => ⟨k + 1, round l k hf _ rfl⟩⟩
   rw [if_neg a]
   simp only [if_neg a] at round
   exact ⟨b, Au x true vis, _, z, h, met ++ [x], rfl, hi.mark hx hs lz (by split <;> simp) (by omega), hul, fun l k hf => ⟨k + 1, round l k hf _ rfl⟩⟩
  rw [if_neg k2]
  simp only [if_neg k2] at round
  obtain ⟨o, ho⟩ : ∃ o, BN p x.elem x.fin 0 = some o := SY hhas k2 k4
  simp only [ho] at round
  rw [ho, Option.getD_some]
  by_cases t1 : (A5 b z x.elem).1 = true
  .rw [if_pos t1]
   simp only [if_pos t1] at round
   obtain ⟨b1, v1, g1, z1, q1, m1, e1, i1, u1, s1⟩ := Ko ih (b := (A5 b z x.elem).2.1) ⟨x.elem, o⟩ hu' hc2
   refine ⟨b1, v1, g1, z1, q1, m1, e1, i1, by omega, fun l k hf => ?_⟩
   obtain ⟨r1, r2⟩ := round l k hf _ rfl
   obtain ⟨k3, r3, r4⟩ := s1 _ _ r2
   exact ⟨k3, r1.trans r3, r4⟩
  rw [if_neg t1]
  simp only [if_neg t1] at round
  exact ⟨_, Au x true vis, g, _, h, met ++ [x], rfl, hc2, hul, fun l k hf => ⟨k + 1, round l k hf _ rfl⟩⟩
end
end Go.E
/- Plain Lean: the flank of a road: the document's answer and the program's are one (law FlankOfs). No condition. -/
namespace Go.E
open Go
section
variable {p : AH} {n : CK} {r : AT}
theorem Xr (hv : CR p) (g : List AM) (z h : List Int) (b : Bool) (met : List AC) {x y : AC} (hy : Ao p x = some y) {g' : List AM} {z' h' : List Int} {b' : Bool} {met' : List AC} (hc : MP 1000 (Ed p r g z h b met, y) = some (Ed p r g' z' h' b' met')) :
  IC (Ed p r g z h b met) x.elem x.fin = some (Ed p r g' z' h' b' met') := by
 have hj := hv.nj
 show Cn (NG (fun (rc : (Aa × Int × Int) -> Option Aa) (a : (Aa × Int × Int)) => Cn rc a.1 a.2.1 a.2.2) 999) (Ed p r g z h b met) x.elem x.fin = _
 have hc' : Gv (Ed p r g z h b met) y = some (Ed p r g' z' h' b' met') := hc
 unfold Cn Ed at *
 simp only [Ce p (show p.joins.length < 1000000 by omega), hy, Option.bind_some, Option.isSome_some, cond_true, Option.getD_some, hc']
def Yg (p : AH) (r : AT) (i : Int) (g : List AM) (z h : List Int) (b : Bool) (met : List AC) : Int × (List Bs) × (List Br) × (List A4) × (List B9) × Int × Int × Int × Int × Bool × Int × Int × Int × (List Aq) × (List AM) × Bool × (List AM) × (List Int) × (List Int) × (List AC) :=
 (i, p.elems, p.joins, p.signals, p.lines, p.top, p.brake, p.margin, p.throw, p.hard, r.frm, r.to, r.fin, r.steps, r.needs, b, g, z, h, met)
theorem Ug (hv : CR p) (hn : Ct p n) (h1 : r.steps.length <= 12) (h2 : r.needs.length <= 1000) (L : List AC) (hL : L.length <= 24) (hLj : ∀ x ∈ L, ∃ y, Ao p x = some y) : ∀ (rest : List AC) (i : Nat) (b : Bool) (vis : List (AC × Bool)) (g : List AM) (z h : List Int) (met : List AC) (k : Nat), L.drop i = rest -> i <= L.length -> CI p vis g z h met -> FI p r.steps 700 k vis g z h (D9 p rest).reverse ->
  ∃ R, AQ (Ex L) (Yg p r (i : Int) g z h b met) = some R /\ AQ (B5 n r r.steps r.needs p) (b, vis, g, z, h, (D9 p rest).reverse) = some R := by
 have hj := hv.nj
 intro rest
 induction rest with
 | nil =>
  intro i b vis g z h met k hd hi hc hf
  have : i = L.length := by have := congrArg List.length hd; simp at this; omega
  subst this
  refine ⟨⟨r.frm, r.to, r.fin, r.steps, r.needs, g, z, h, b⟩, Cq ?_, Cq rfl⟩
  simp [Ex, Yg]
 | cons x rest ih =>
  intro i b vis g z h met k hd hi hc hf
  have hlt : i < L.length := by have := congrArg List.length hd; simp at this; omega
  have hx : L[i]? = some x := by
   have : (L.drop i)[0]? = some x := by rw [hd]; rfl
   simpa using this
  have hr : L.drop (i + 1) = rest := by
   have : (L.drop i).drop 1 = rest := by rw [hd]; rfl
   rwa [List.drop_drop] at this
  obtain ⟨y, hy⟩ := hLj x (List.mem_of_getElem? hx)
  have hq : (D9 p (x :: rest)).reverse = (D9 p rest).reverse ++ [y] := by unfold D9; simp [hy]
  have hu : Gb p vis < 1000 := by
   have h3 : Gb p vis <= (CE p).length := List.length_filter_le _ _
   have h4 : (CE p).length = 2 * p.joins.length := GZ _
   omega
  obtain ⟨b', vis', g', z', h', met', e1, i1, u1, s1⟩ := Xq hv hn h1 h2 1000 b vis g z h met y hu (Hn hy) hc
  rw [hq] at hf ⊢
  obtain ⟨k', e2, f2⟩ := s1 _ _ hf
  obtain ⟨R, e3, e4⟩ := ih (i + 1) b' vis' g' z' h' met' k' hr (by omega) i1 f2
  refine ⟨R, ?_, by rw [e2, e4]⟩
  rw [<- e3]
  refine CT ?_
  have hon := Xr (r := r) hv g z h b met hy e1
  unfold Ed at hon
  simp only [Ex, Yg, Bl hx, cond_true, Ai, hx, Option.bind_some]
  rw [hon]
  simp only [Option.bind_some, AX (show i < 1000000000 by omega)]
  simp only [Int.ofNat_lt, hlt, decide_true, cond_true]
theorem Wl (hv : CR p) (hn : Ct p n) (h1 : r.steps.length <= 12) (h2 : r.needs.length <= 1000) : ∃ R, Fs p r = some R /\ Gn n r = some R := by
 have hj := hv.nj
 have hp := ML (p := p) r.steps
 rw [OF hv hn h1 h2]
 unfold Fs
 simp only [BS (show ([] : List Aq).length + r.steps.length <= 4294967296 by simp; omega), BS (show ([] : List AM).length + r.needs.length <= 4294967296 by simp; omega), List.nil_append, Option.bind_some, VX hv r (show r.steps.length <= 1000 by omega)]
 have h3 : Gb p [] <= (CE p).length := List.length_filter_le _ _
 have h4 : (CE p).length = 2 * p.joins.length := GZ _
 refine Ug hv hn h1 h2 (Db p r.steps) (by omega) (fun x hx => KQ hx) (Db p r.steps) 0 false [] [] [] [] [] 0 rfl (Nat.zero_le _) ⟨fun y => by simp [Bc, AV], by simp, by simp; omega, by simp; omega, by simp; omega⟩ ⟨⟨by simp, by simp, by simp, by simp⟩, ⟨by simp, by simp⟩, fun _ => rfl, fun y hy => ?_, by simp, by simp, ?_⟩
 .have := List.mem_reverse.1 hy
  obtain ⟨x, hx, rfl⟩ := List.mem_map.1 this
  obtain ⟨y, hy⟩ := KQ hx
  rw [hy]
  exact Hn hy
 simp only [D9, List.length_reverse, List.length_map]
 omega
end
end Go.E
/- Plain Lean: whether a road is ready, by the program and by the document (law FlankReady). No condition. -/
namespace Go.E
open Go
end Go.E
/- Plain Lean: a road that is ready is so no more when one thing is otherwise (law FlankOne). No condition. -/
namespace Go.E
open Go
section
variable {p : AH} {n : CK} {r : AT}
theorem Wm {n : Int} {k : Nat} (h0 : 0 <= n) (hk : 0 < k) : ∃ j : Nat, j < k /\ OQ n (k : Int) = some (j : Int) := by
 obtain ⟨m, rfl⟩ := Int.eq_ofNat_of_zero_le h0
 refine ⟨m % k, Nat.mod_lt _ hk, ?_⟩
 unfold OQ
 rw [if_neg (by omega)]
 rfl
end
end Go.E
/- Plain Lean: what a road's flank keeps: nobody comes in but from its zone (law FlankKeeps). No condition. -/
namespace Go.E
open Go
section
variable {p : AH} {n : CK} {r : AT}
def Vd (st : List Aq) (vis : List (AC × Bool)) (l : List AC) (y : AC) : Prop := y ∈ l \/ Bc vis y = true \/ y.elem ∈ st.map (·.elem)
structure SZ (p : AH) (nd g : List AM) (z h : List Int) (at_ : AC -> Prop) (x : AC) : Prop where
 held : 0 <= Az p x /\ p.hard = false -> Az p x ∈ h
 gate : ¬ (0 <= Az p x /\ p.hard = false) -> Af p x.elem ≠ 4
 toe : ¬ (0 <= Az p x /\ p.hard = false) -> Af p x.elem = 2 -> x.fin = 0 -> x.elem ∈ z /\ ∀ o, (o = 1 \/ o = 2) -> ∀ y, Ao p ⟨x.elem, o⟩ = some y -> at_ y
 leg : ¬ (0 <= Az p x /\ p.hard = false) -> Af p x.elem = 2 -> x.fin ≠ 0 -> (x.elem ∈ z /\ ∀ y, Ao p ⟨x.elem, 0⟩ = some y -> at_ y) \/ (⟨x.elem, Ab (3 - x.fin)⟩ : AM) ∈ g
 other : ¬ (0 <= Az p x /\ p.hard = false) -> Af p x.elem ≠ 2 -> ∀ o, BN p x.elem x.fin 0 = some o -> x.elem ∈ z /\ ∀ y, Ao p ⟨x.elem, o⟩ = some y -> at_ y
theorem SZ.mono {nd g g' : List AM} {z z' h h' : List Int} {a a' : AC -> Prop} {x : AC} (hk : SZ p nd g z h a x) (hg : ∀ m ∈ g, m ∈ g') (hz : ∀ m ∈ z, m ∈ z') (hh : ∀ m ∈ h, m ∈ h') (ha : ∀ y, a y -> a' y) : SZ p nd g' z' h' a' x :=
 ⟨fun c => hh _ (hk.held c), hk.gate, fun c k f => ⟨hz _ (hk.toe c k f).1, fun o ho y hy => ha _ ((hk.toe c k f).2 o ho y hy)⟩,
  fun c k f => (hk.leg c k f).imp (fun q => ⟨hz _ q.1, fun y hy => ha _ (q.2 y hy)⟩) (hg _), fun c k o ho => ⟨hz _ (hk.other c k o ho).1, fun y hy => ha _ ((hk.other c k o ho).2 y hy)⟩⟩
structure KI (p : AH) (st : List Aq) (nd : List AM) (b : Bool) (vis : List (AC × Bool)) (g : List AM) (z h : List Int) (l : List AC) : Prop where
 seen : b = false -> ∀ x, Bc vis x = true -> SZ p nd g z h (Vd st vis l) x
 init : ∀ x y, x ∈ Db p st -> Ao p x = some y -> Vd st vis l y
theorem KI.next {st : List Aq} {nd : List AM} {b b' : Bool} {vis vis' : List (AC × Bool)} {g g' : List AM} {z z' h h' : List Int} {l l' : List AC} {x : AC} (hi : KI p st nd b vis g z h (l ++ [x]))
  (hb : b' = false -> b = false) (hv : ∀ y, Bc vis y = true -> Bc vis' y = true) (hv2 : ∀ y, Bc vis' y = true -> Bc vis y = true \/ y = x) (hl : ∀ y ∈ l, y ∈ l') (hx : Bc vis' x = true \/ x.elem ∈ st.map (·.elem))
  (hg : ∀ m ∈ g, m ∈ g') (hz : ∀ m ∈ z, m ∈ z') (hh : ∀ m ∈ h, m ∈ h') (hr : b' = false -> Bc vis x = false -> Bc vis' x = true -> SZ p nd g' z' h' (Vd st vis' l') x) : KI p st nd b' vis' g' z' h' l' := by
 have ha : ∀ y, Vd st vis (l ++ [x]) y -> Vd st vis' l' y := by
  rintro y (hy | hy | hy)
  .rcases List.mem_append.1 hy with hy | hy
   .exact .inl (hl y hy)
   simp at hy; subst hy; exact .inr hx
  .exact .inr (.inl (hv y hy))
  exact .inr (.inr hy)
 refine ⟨fun hb' y hy => ?_, fun y q hy hq => ha q (hi.init y q hy hq)⟩
 cases hs : Bc vis y with
 | true => exact (hi.seen (hb hb') y hs).mono hg hz hh ha
 | false =>
  rcases hv2 y hy with hy2 | rfl
  .rw [hs] at hy2; cases hy2
  exact hr hb' hs hy
theorem NT {b : Bool} {z : List Int} {e m : Int} (hm : m ∈ z) : m ∈ (A5 b z e).2.2 := by
 unfold A5
 split
 .exact hm
 split
 .exact hm
 exact List.mem_append_left _ hm
theorem FV {b : Bool} {z : List Int} {e : Int} (h : (A5 b z e).2.1 = false) : b = false /\ (A5 b z e).1 = true /\ e ∈ (A5 b z e).2.2 := by
 unfold A5 at *
 split
 .rename_i c; rw [if_pos c] at h; exact ⟨h, rfl, c⟩
 rename_i c
 rw [if_neg c] at h
 split
 .rename_i d; rw [if_pos d] at h; cases h
 rename_i d; rw [if_neg d] at h; exact ⟨h, rfl, by simp⟩
theorem JW {l : List AC} {x y : AC} (h : y ∈ l) : y ∈ De p l x := by
 unfold De
 split
 .exact List.mem_append_left _ h
 exact h
theorem Kp {l : List AC} {x y : AC} (h : Ao p x = some y) : y ∈ De p l x := by
 unfold De
 rw [h]
 simp
theorem Xs {st : List Aq} {nd : List AM} {b : Bool} {vis : List (AC × Bool)} {g : List AM} {z h : List Int} {l : List AC} {x : AC} (hi : KI p st nd b vis g z h (l ++ [x])) {s : FS} (hs : s = Jv p st nd b vis g z h l x) :
  KI p st nd s.1 s.2.1 s.2.2.1 s.2.2.2.1 s.2.2.2.2.1 s.2.2.2.2.2 := by
 have sx : Bc (Au x true vis) x = true := (FU vis x x).2 (.inl rfl)
 have s1 : ∀ y, Bc vis y = true -> Bc (Au x true vis) y = true := fun y hy => (FU vis x y).2 (.inr hy)
 have s2 : ∀ y, Bc (Au x true vis) y = true -> Bc vis y = true \/ y = x := fun y hy => ((FU vis x y).1 hy).symm
 unfold Jv at hs
 by_cases c : x.elem ∈ st.map (·.elem) \/ Bc vis x = true
 .rw [if_pos c] at hs
  subst hs
  exact hi.next (fun h => h) (fun _ h => h) (fun _ h => .inl h) (fun _ h => h) c.symm (fun _ h => h) (fun _ h => h) (fun _ h => h) fun _ hn hy => (by rw [hn] at hy; cases hy)
 rw [if_neg c] at hs
 by_cases k1 : 0 <= Az p x /\ p.hard = false
 .rw [if_pos k1] at hs
  subst hs
  refine hi.next (fun h => h) s1 s2 (fun _ h => h) (.inl sx) (fun _ h => h) (fun _ h => h) (fun m hm => ?_) fun _ _ _ => ⟨fun _ => ?_, fun q => absurd k1 q, fun q => absurd k1 q, fun q => absurd k1 q, fun q => absurd k1 q⟩
  .dsimp only; split
   .exact hm
   exact List.mem_append_left _ hm
  dsimp only; split
  .assumption
  simp
 rw [if_neg k1] at hs
 by_cases k4 : Af p x.elem = 4
 .rw [if_pos k4] at hs
  subst hs
  exact hi.next (fun h => (by cases h)) s1 s2 (fun _ h => h) (.inl sx) (fun _ h => h) (fun _ h => h) (fun _ h => h) fun h => (by cases h)
 rw [if_neg k4] at hs
 by_cases k2 : Af p x.elem = 2
 .rw [if_pos k2] at hs
  by_cases f0 : x.fin = 0
  .rw [if_pos f0] at hs
   subst hs
   refine hi.next (fun hb => (FV hb).1) s1 s2 (fun y hy => ?_) (.inl sx) (fun _ h => h) (fun _ h => NT h) (fun _ h => h) fun hb _ _ => ⟨fun q => absurd q k1, fun _ => k4, fun _ _ _ => ⟨(FV hb).2.2, fun o ho y hy => .inl ?_⟩, fun _ _ f => absurd f0 f, fun _ q => absurd k2 q⟩
   .dsimp only; split
    .exact JW (JW hy)
    exact hy
   dsimp only
   rw [if_pos (FV hb).2.1]
   rcases ho with rfl | rfl
   .exact Kp hy
   exact JW (Kp hy)
  rw [if_neg f0] at hs
  by_cases a : (⟨x.elem, x.fin⟩ : AM) ∈ nd \/ (⟨x.elem, x.fin⟩ : AM) ∈ g
  .rw [if_pos a] at hs
   subst hs
   refine hi.next (fun hb => (FV hb).1) s1 s2 (fun y hy => ?_) (.inl sx) (fun _ h => h) (fun _ h => NT h) (fun _ h => h) fun hb _ _ => ⟨fun q => absurd q k1, fun _ => k4, fun _ _ f => absurd f f0, fun _ _ _ => .inl ⟨(FV hb).2.2, fun y hy => .inl ?_⟩, fun _ q => absurd k2 q⟩
   .dsimp only; split
    .exact JW hy
    exact hy
   dsimp only
   rw [if_pos (FV hb).2.1]
   exact Kp hy
  rw [if_neg a] at hs
  subst hs
  refine hi.next (fun h => h) s1 s2 (fun _ h => h) (.inl sx) (fun m hm => ?_) (fun _ h => h) (fun _ h => h) fun hb _ _ => ⟨fun q => absurd q k1, fun _ => k4, fun _ _ f => absurd f f0, fun _ _ _ => .inr ?_, fun _ q => absurd k2 q⟩
  .dsimp only; split
   .exact hm
   exact List.mem_append_left _ hm
  dsimp only; split
  .assumption
  simp
 rw [if_neg k2] at hs
 cases ht : BN p x.elem x.fin 0 with
 | none =>
  rw [ht] at hs
  subst hs
  exact hi.next (fun h => h) s1 s2 (fun _ h => h) (.inl sx) (fun _ h => h) (fun _ h => h) (fun _ h => h) fun hb _ _ => ⟨fun q => absurd q k1, fun _ => k4, fun _ q => absurd q k2, fun _ q => absurd q k2, fun _ _ o ho => (by rw [ht] at ho; cases ho)⟩
 | some o =>
  rw [ht] at hs
  subst hs
  refine hi.next (fun hb => (FV hb).1) s1 s2 (fun y hy => ?_) (.inl sx) (fun _ h => h) (fun _ h => NT h) (fun _ h => h) fun hb _ _ => ⟨fun q => absurd q k1, fun _ => k4, fun _ q => absurd q k2, fun _ q => absurd q k2, fun _ _ o' ho => ?_⟩
  .dsimp only; split
   .exact JW hy
   exact hy
  rw [ht] at ho
  cases ho
  refine ⟨(FV hb).2.2, fun y hy => .inl ?_⟩
  dsimp only
  rw [if_pos (FV hb).2.1]
  exact Kp hy
theorem TB (hv : CR p) (hn : Ct p n) (h1 : r.steps.length <= 12) (h2 : r.needs.length <= 1000) : ∃ g z h b, Gn n r = some ⟨r.frm, r.to, r.fin, r.steps, r.needs, g, z, h, b⟩ /\ Tj p r.steps z /\ XH p r.steps g /\ (p.hard = true -> h = []) /\ g.length <= 700 /\ h.length <= 700 /\
  ∃ vis, KI p r.steps r.needs b vis g z h [] := by
 have hj := hv.nj
 have hp := ML (p := p) r.steps
 rw [OF hv hn h1 h2]
 obtain ⟨R, e1, g, z, h, b, rfl, e2⟩ := EG (step := B5 n r r.steps r.needs p) (Post := fun R => ∃ g z h b, R = (⟨r.frm, r.to, r.fin, r.steps, r.needs, g, z, h, b⟩ : AT) /\ Tj p r.steps z /\ XH p r.steps g /\ (p.hard = true -> h = []) /\ g.length <= 700 /\ h.length <= 700 /\ ∃ vis, KI p r.steps r.needs b vis g z h [])
  (fun k s => FI p r.steps 700 k s.2.1 s.2.2.1 s.2.2.2.1 s.2.2.2.2.1 s.2.2.2.2.2 /\ KI p r.steps r.needs s.1 s.2.1 s.2.2.1 s.2.2.2.1 s.2.2.2.2.1 s.2.2.2.2.2) 700 (s := (false, [], [], [], [], (D9 p (Db p r.steps)).reverse)) (by
   rintro k ⟨b, vis, g, z, h, l⟩ ⟨hi, hk⟩
   have hm := hi.meas
   have hlg := hi.lg
   have hlh := hi.lh
   have hzl := hi.zok.len
   dsimp only at hm hlg hlh hzl hi hk
   rcases List.eq_nil_or_concat l with rfl | ⟨l', x, rfl⟩
   .left
    exact ⟨_, rfl, g, z, h, b, rfl, hi.zok, hi.gok, hi.hold, by omega, by omega, vis, hk⟩
   .right
    rw [List.concat_eq_append] at hi hm hk ⊢
    simp only [List.length_append, List.length_cons, List.length_nil] at hm
    refine ⟨by omega, _, Ph hn h1 h2 b vis g z h l' x (by omega) (by omega) (by omega) (by omega), Tk hv hi rfl, Xs hk rfl⟩) (by
   refine ⟨⟨⟨by simp, by simp, by simp, by simp⟩, ⟨by simp, by simp⟩, fun _ => rfl, fun y hy => ?_, by simp, by simp, ?_⟩, fun _ x hx => ?_, fun x y hx hy => .inl ?_⟩
   .have := List.mem_reverse.1 hy
    obtain ⟨x, hx, rfl⟩ := List.mem_map.1 this
    obtain ⟨y, hy⟩ := KQ hx
    rw [hy]
    exact Hn hy
   .have h3 : Gb p [] <= (CE p).length := List.length_filter_le _ _
    have h4 : (CE p).length = 2 * p.joins.length := GZ _
    simp only [D9, List.length_reverse, List.length_map]
    omega
   .simp [Bc, AV] at hx
   rw [List.mem_reverse]
   exact List.mem_map.2 ⟨x, hx, by rw [hy]; rfl⟩)
 exact ⟨g, z, h, b, e1, e2⟩
end
end Go.E
/- Plain Lean: whether a road's flank keeps all others out, told without an order (Uh, GuardP), and the program's answer. No condition. -/
namespace Go.E
open Go
def ZO (lay : Int -> Option Int) (e : Int) (w : Cx) : List Int := if w.pos = 0 \/ lay e = none \/ lay e = some w.pos then [w.out] else []
def NV (p : AH) (lay : Int -> Option Int) (x : AC) : List Int := (CD p x.elem x.fin).flatMap (ZO lay x.elem)
def Kq (p : AH) (holds : List Int) (x : AC) : Prop := p.hard = false /\ 0 <= Az p x /\ Az p x ∈ holds
instance (p : AH) (holds : List Int) (x : AC) : Decidable (Kq p holds x) := by unfold Kq; infer_instance
def MR (p : AH) (lay : Int -> Option Int) (zone : List Int) (x : AC) : Prop := Af p x.elem ≠ 4 /\ (NV p lay x ≠ [] -> x.elem ∈ zone)
instance (p : AH) (lay : Int -> Option Int) (zone : List Int) (x : AC) : Decidable (MR p lay zone x) := by unfold MR; infer_instance
inductive Of (p : AH) (lay : Int -> Option Int) (holds : List Int) (st : List Aq) : AC -> Prop
 | init {x y : AC} : x ∈ Db p st -> Ao p x = some y -> Of p lay holds st y
 | step {x y : AC} {o : Int} : Of p lay holds st x -> x.elem ∉ st.map (·.elem) -> ¬ Kq p holds x -> o ∈ NV p lay x -> Ao p ⟨x.elem, o⟩ = some y -> Of p lay holds st y
def Uh (p : AH) (lay : Int -> Option Int) (holds zone : List Int) (st : List Aq) : Prop := ∀ x, Of p lay holds st x -> x.elem ∉ st.map (·.elem) -> ¬ Kq p holds x -> MR p lay zone x
def Ny (nl : List AM) : Prop := ∀ a ∈ nl, ∀ b ∈ nl, a.elem = b.elem -> a.pos = b.pos
section
variable {p : AH} {n : CK} {r : AT} {lay : Int -> Option Int} {holds zone : List Int} {st : List Aq}
structure GI (p : AH) (lay : Int -> Option Int) (holds zone : List Int) (st : List Aq) (V : AC -> Prop) (q : List AC) : Prop where
 arr : ∀ x ∈ q, Of p lay holds st x
 full : ∀ x, V x -> x.elem ∉ st.map (·.elem) -> ¬ Kq p holds x -> MR p lay zone x /\ ∀ o ∈ NV p lay x, ∀ y, Ao p ⟨x.elem, o⟩ = some y -> y ∈ q \/ V y
 init : ∀ x y, x ∈ Db p st -> Ao p x = some y -> y ∈ q \/ V y
theorem GI.done {V : AC -> Prop} (h : GI p lay holds zone st V []) : Uh p lay holds zone st := by
 have key : ∀ x, Of p lay holds st x -> V x := by
  intro x hx
  induction hx with
  | init h1 h2 => exact (h.init _ _ h1 h2).resolve_left (by simp)
  | step _ h2 h3 h4 h5 ih => exact ((h.full _ ih h2 h3).2 _ h4 _ h5).resolve_left (by simp)
 exact fun x hx h1 h2 => (h.full x (key x hx) h1 h2).1
theorem GI.bad {V : AC -> Prop} {x : AC} {q : List AC} (h : GI p lay holds zone st V (x :: q)) (h1 : x.elem ∉ st.map (·.elem)) (h2 : ¬ Kq p holds x) (hb : ¬ MR p lay zone x) : ¬ Uh p lay holds zone st :=
 fun hk => hb (hk x (h.arr x (by simp)) h1 h2)
theorem GI.next {V V' : AC -> Prop} {x : AC} {q q' : List AC} (h : GI p lay holds zone st V (x :: q)) (hV : ∀ y, V y -> V' y) (hx : V' x) (hV2 : ∀ y, V' y -> V y \/ y = x) (hq : ∀ y ∈ q, y ∈ q') (hq2 : ∀ y ∈ q', Of p lay holds st y)
  (hf : ¬ V x -> x.elem ∉ st.map (·.elem) -> ¬ Kq p holds x -> MR p lay zone x /\ ∀ o ∈ NV p lay x, ∀ y, Ao p ⟨x.elem, o⟩ = some y -> y ∈ q' \/ V' y) : GI p lay holds zone st V' q' := by
 have keep : ∀ y, y ∈ x :: q \/ V y -> y ∈ q' \/ V' y := by
  rintro y (hy | hy)
  .rcases List.mem_cons.1 hy with rfl | hy
   .exact .inr hx
   exact .inl (hq y hy)
  exact .inr (hV y hy)
 refine ⟨hq2, fun y hy h1 h2 => ?_, fun a b ha hb => keep b (h.init a b ha hb)⟩
 by_cases c : V y
 .have := h.full y c h1 h2
  exact ⟨this.1, fun o ho z hz => keep z (this.2 o ho z hz)⟩
 rcases hV2 y hy with hy2 | rfl
 .exact absurd hy2 c
 exact hf c h1 h2
def Sb (p : AH) (e : Int) (l : List Int) : List AC := l.flatMap fun o => match Ao p ⟨e, o⟩ with
 | some y => [y]
 | none => []
theorem Pk {e o : Int} {l : List Int} {y : AC} : y ∈ Sb p e l ↔ ∃ o ∈ l, Ao p ⟨e, o⟩ = some y := by
 unfold Sb
 rw [List.mem_flatMap]
 constructor
 .rintro ⟨o, ho, hy⟩
  cases hx : Ao p ⟨e, o⟩ with
  | none => rw [hx] at hy; cases hy
  | some z => rw [hx] at hy; simp at hy; subst hy; exact ⟨o, ho, hx⟩
 rintro ⟨o, ho, hy⟩
 exact ⟨o, ho, by rw [hy]; simp⟩
theorem GI.go {V V' : AC -> Prop} {x : AC} {q : List AC} (h : GI p lay holds zone st V (x :: q)) (h1 : x.elem ∉ st.map (·.elem)) (h2 : ¬ Kq p holds x) (hg : MR p lay zone x) (hV : ∀ y, V' y ↔ V y \/ y = x) : GI p lay holds zone st V' (q ++ Sb p x.elem (NV p lay x)) := by
 have hx := h.arr x (by simp)
 refine h.next (fun y hy => (hV y).2 (.inl hy)) ((hV x).2 (.inr rfl)) (fun y hy => (hV y).1 hy) (fun y hy => List.mem_append_left _ hy) (fun y hy => ?_) (fun _ _ _ => ⟨hg, fun o ho y hy => .inl (List.mem_append_right _ (Pk (o := o) |>.2 ⟨o, ho, hy⟩))⟩)
 rcases List.mem_append.1 hy with hy | hy
 .exact h.arr y (by simp [hy])
 obtain ⟨o, ho, hy⟩ := (Pk (o := 0)).1 hy
 exact .step hx h1 h2 ho hy
end
end Go.E
/- Plain Lean: a road that is guarded keeps all out, whatever way other points lie; what a flank keeps is guarded. No condition. -/
namespace Go.E
open Go
section
variable {p : AH} {n : CK} {r : AT} {lay : Int -> Option Int} {holds zone : List Int} {st : List Aq} {lie : List Int} {shut : List Bool}
end
end Go.E
/- Plain Lean: whether a road is guarded: the program's answer and the document's are one. No condition. -/
namespace Go.E
open Go
def Ze (p : AH) (m : AM) : Prop := Af p m.elem = 2 /\ (m.pos = 1 \/ m.pos = 2)
instance (p : AH) (m : AM) : Decidable (Ze p m) := by unfold Ze; infer_instance
section
variable {p : AH} {n : CK} {r : AT}
end
end Go.E
/- Plain Lean: whether a road is guarded, by the program and by the document (law ProofGuards); what is guarded keeps (law ProofKeeps). No condition. -/
namespace Go.E
open Go
section
variable {p : AH} {n : CK} {r : AT}
end
end Go.E
/- Plain Lean: what is wrong first with a chart of a valid plan: the program's answer and the document's are one (checkF). No condition. -/
namespace Go.E
open Go
section
variable {p : AH} {n : CK}
theorem Ve (hv : CR p) {a b : AT} (ha : Ti p a = true) (hb : Ti p b = true) (h : a.steps = b.steps) : a.frm = b.frm := by
 obtain ⟨s1, n1, l1, a1, a2, a3, a4, a5, a6, a7⟩ := Kl ha
 obtain ⟨s2, n2, l2, b1, b2, b3, b4, b5, b6, b7⟩ := Kl hb
 have key : ∀ (sg : A4) (st : List Aq) (nd : List AM), 1 <= st.length -> DK p sg.at_.elem (Ao p sg.at_) [] [] st = some nd -> ∃ q, st.head? = some q /\ Ao p sg.at_ = some ⟨q.elem, q.in_⟩ := fun sg st nd hl hs => by
  cases st with
  | nil => simp at hl
  | cons q r =>
   cases hx : Ao p sg.at_ with
   | none => rw [hx] at hs; simp [DK] at hs
   | some x =>
    rw [hx] at hs
    unfold DK at hs
    split at hs
    .cases hs
    rename_i c
    have e1 : q.elem = x.elem := Decidable.byContradiction fun h => c (.inl h)
    have e2 : q.in_ = x.fin := Decidable.byContradiction fun h => c (.inr (.inl h))
    exact ⟨q, rfl, by rw [e1, e2]⟩
 obtain ⟨q1, c1, c2⟩ := key s1 a.steps n1 a2 a4
 obtain ⟨q2, d1, d2⟩ := key s2 b.steps n2 b2 b4
 rw [h] at c1
 rw [c1] at d1
 cases d1
 have e1 := Qq hv.join c2
 have e2 := Qq hv.join d2
 rw [e1] at e2
 have e3 : s1.at_ = s2.at_ := by injection e2
 obtain ⟨f1, f2⟩ := Vf a1
 obtain ⟨g1, g2⟩ := Vf b1
 have r1 := hv.sig.reads _ _ f1
 have r2 := hv.sig.reads _ _ g1
 rw [e3, r2] at r1
 rw [f2, g2]; omega
end
end Go.E
/- Plain Lean: the chart of a valid plan with one thing of one road turned (law ProofTurned). No condition. -/
namespace Go.E
open Go
section
variable {p : AH} {n : CK}
theorem Ui (h : GR p = some true) : Dp p = some 0 := by
 unfold GR at h
 cases h1 : IZ p with
 | none => rw [h1] at h; cases h
 | some b =>
  rw [h1] at h
  cases b with
  | false => cases h
  | true =>
   cases h2 : Dp p with
   | none => rw [h2] at h; cases h
   | some e =>
    rw [h2] at h
    simp only [Option.bind_some, cond_true, Option.some.injEq, beq_iff_eq] at h
    rw [h]
noncomputable def Ej (n : CK) (r : AT) : AT := (Gn n r).getD r
structure Xt (p : AH) (r q : AT) : Prop where
 frm : q.frm = r.frm
 to : q.to = r.to
 fin : q.fin = r.fin
 steps : q.steps = r.steps
 needs : q.needs = r.needs
 zone : Tj p r.steps q.zone
 guards : XH p r.steps q.guards
 hard : p.hard = true -> q.holds = []
 lg : q.guards.length <= 700
 lh : q.holds.length <= 700
 keep : ∃ vis, KI p r.steps r.needs q.bare vis q.guards q.zone q.holds []
theorem Nz (hv : CR p) (hn : Ct p n) {r : AT} (h1 : r.steps.length <= 12) (h2 : r.needs.length <= 1000) : Gn n r = some (Ej n r) /\ Xt p r (Ej n r) := by
 obtain ⟨g, z, h, b, e1, e2, e3, e4, e5, e6, e7⟩ := TB hv hn h1 h2
 have hR2 : Ej n r = ⟨r.frm, r.to, r.fin, r.steps, r.needs, g, z, h, b⟩ := by unfold Ej; rw [e1]; rfl
 refine ⟨by rw [hR2, e1], ?_⟩
 rw [hR2]
 exact ⟨rfl, rfl, rfl, rfl, rfl, e2, e3, e4, e5, e6, e7⟩
theorem Wn (hv : CR p) (hn : Ct p n) {r : AT} (h1 : r.steps.length <= 12) (h2 : r.needs.length <= 1000) : Fs p r = some (Ej n r) := by
 obtain ⟨R, R1, R2⟩ := Wl hv hn h1 h2
 have hR : Ej n r = R := by unfold Ej; rw [R2]; rfl
 rw [hR, R1]
theorem Yk {α : Type} (l m : List α) (x y : α) : KD (l ++ x :: m) (l.length : Int) y = l ++ y :: m := by
 show (l ++ x :: m).set (l.length : Int).toNat y = _
 rw [Int.toNat_natCast]
 simp
theorem Vg {l : List AT} (f : AT -> AT) {β : Type} {step : Int × List AT -> Option ((Int × List AT) ⊕ β)} {fin : List AT -> β} (hl : l.length <= 1000)
  (h0 : ∀ c, c.length = l.length -> step ((l.length : Int), c) = some (.inr (fin c))) (h1 : ∀ (i : Nat) r c, l[i]? = some r -> c[i]? = some r -> c.length = l.length -> step ((i : Int), c) = some (.inl (((i + 1 : Nat) : Int), KD c (i : Int) (f r)))) : AQ step ((0 : Int), l) = some (fin (l.map f)) := by
 obtain ⟨b, h2, rfl⟩ := B4 (l := l) (step := step) (Post := fun b => b = fin (l.map f)) (fun i c => c = (l.take i).map f ++ l.drop i) (c := l)
  (fun c hc => ⟨fin c, h0 c (by rw [hc]; simp), by rw [hc, List.take_length, List.drop_length, List.append_nil]⟩)
  (fun i r c hr hc => by
   have hi := Bh hr
   have hd : l.drop i = r :: l.drop (i + 1) := by
    obtain ⟨h, e⟩ := List.getElem?_eq_some_iff.1 hr
    rw [List.drop_eq_getElem_cons h, e]
   have hlen : ((l.take i).map f).length = i := by simp; omega
   have hci : c[i]? = some r := by
    rw [hc, hd, List.getElem?_append_right (by omega), hlen]; simp
   refine .inr ⟨KD c (i : Int) (f r), h1 i r c hr hci (by rw [hc]; simp; omega), ?_⟩
   have := Yk ((l.take i).map f) (l.drop (i + 1)) r (f r)
   rw [hlen] at this
   rw [hc, hd, this, List.take_add_one, hr]
   simp)
  (by simp)
 exact h2
theorem Vh (hv : CR p) (hn : Ct p n) (h0 : Dp p = some 0) : ∃ c e, Dt p = some (c, e) /\ (e = 0 -> (DG p).2 = 0 /\ c = ⟨p, (DG p).1.map (Ej n)⟩) := by
 unfold Dt
 simp only [h0, Option.bind_some, bne_self_eq_false, cond_false, UV hv]
 by_cases c : (DG p).2 = 0
 .have c' : ((DG p).2 != 0) = false := by simp [c]
  rw [c']
  simp only [cond_false]
  have hl : (DG p).1.length <= 64 := by
   unfold DG
   split
   .simp
   simp only; omega
  refine ⟨_, 0, ?_, fun _ => ⟨c, rfl⟩⟩
  exact Vg (l := (DG p).1) (Ej n) (step := Ey p) (fin := fun l => ((⟨p, l⟩ : MB), (0 : Int))) (by omega) (fun q hq => by
   have d : decide (((DG p).1.length : Int) < (q.length : Int)) = false := decide_eq_false (by omega)
   simp only [Ey, d, cond_false]) (fun i r q hr hq hlen => by
   have hi := Bh hr
   obtain ⟨s, hs⟩ := SV (List.mem_of_getElem? hr)
   have hro := Ga hs
   have f2 := Wn hv hn (r := r) (JV hs) (by have := hro.2.2.2.2.2.2.2.2; omega)
   have d : decide ((i : Int) < (q.length : Int)) = true := decide_eq_true (by omega)
   simp only [Ey, d, cond_true, Ai, hq, Option.bind_some, f2, AX (show i < 1000000000 by omega)])
 have c' : ((DG p).2 != 0) = true := by simp [c]
 rw [c']
 exact ⟨_, _, rfl, fun h => absurd h c⟩
end
end Go.E
/- Plain Lean: what is built is fine (law ProofBuilt); what a chart without one of its roads lacks, and with one of them twice (law ProofLacks). No condition. -/
namespace Go.E
open Go
section
variable {p : AH} {n : CK}
theorem Qt (hv : CR p) {s s' : Int} {a b : AT} (ha : a ∈ F5 p s) (hb : b ∈ F5 p s') (h : a.steps = b.steps) : a = b /\ s = s' := by
 have fa := Ga ha
 have fb := Ga hb
 have e := Ve hv fa.1 fb.1 h
 obtain ⟨s1, n1, l1, a1, a2, a3, a4, a5, a6, a7⟩ := Kl fa.1
 obtain ⟨s2, n2, l2, b1, b2, b3, b4, b5, b6, b7⟩ := Kl fb.1
 rw [e, b1] at a1
 have e1 : s2 = s1 := Option.some.inj a1
 subst e1
 rw [h, b4] at a4
 have e2 : n2 = n1 := Option.some.inj a4
 rw [h, b5] at a5
 have e3 : l2 = l1 := Option.some.inj a5
 subst e3
 have e4 : a.fin = b.fin /\ a.to = b.to := by
  unfold MJ at a6 b6
  split at a6
  .rename_i k
   rw [if_pos k] at b6
   simp only [decide_eq_true_eq] at a6 b6
   exact ⟨by rw [a6.1, b6.1], by rw [a6.2, b6.2]⟩
  rename_i k
  rw [if_neg k] at b6
  split at a6
  .rename_i k2
   rw [if_pos k2] at b6
   simp only [decide_eq_true_eq] at a6 b6
   exact ⟨by rw [a6.1, b6.1], by rw [a6.2, b6.2]⟩
  rename_i k2
  rw [if_neg k2] at b6
  simp only [Bool.and_eq_true, decide_eq_true_eq] at a6 b6
  exact ⟨by rw [a6.2.1, b6.2.1], by rw [a6.2.2, b6.2.2]⟩
 refine ⟨WX.2 ⟨e, e4.2, e4.1, h, by rw [a7, b7, e2], by rw [fa.2.2.1, fb.2.2.1], by rw [fa.2.2.2.1, fb.2.2.2.1], by rw [fa.2.2.2.2.1, fb.2.2.2.2.1], by rw [fa.2.2.2.2.2.1, fb.2.2.2.2.2.1]⟩, ?_⟩
 rw [<- fa.2.1, <- fb.2.1, e]
theorem Kr (hv : CR p) : ∀ i : Nat, (Hf p i).Nodup /\ ∀ r ∈ Hf p i, ∃ s : Nat, s < i /\ r ∈ F5 p (s : Int)
 | 0 => ⟨by simp [Hf], by simp [Hf]⟩
 | i + 1 => by
  obtain ⟨h1, h2⟩ := Kr hv i
  rw [NL]
  refine ⟨List.nodup_append.2 ⟨h1, VV _, fun a ha b hb e => ?_⟩, fun r hr => ?_⟩
  .obtain ⟨s, hs, hm⟩ := h2 a ha
   have := (Qt hv hm hb (by rw [e])).2
   omega
  rcases List.mem_append.1 hr with hr | hr
  .obtain ⟨s, hs, hm⟩ := h2 r hr
   exact ⟨s, by omega, hm⟩
  exact ⟨i, by omega, hr⟩
theorem Yl {s : Nat} {r : AT} (hs : s < p.signals.length) (hr : r ∈ F5 p (s : Int)) : r ∈ KP p := by
 unfold KP Hf
 exact List.mem_flatMap.2 ⟨s, List.mem_range.2 hs, hr⟩
structure RU (p : AH) (n : CK) (l : List AT) : Prop where
 eq : l = (KP p).map (Ej n)
 len : l.length <= 64
theorem RU.inj (hv : CR p) (hn : Ct p n) {l : List AT} (hb : RU p n l) {i k : Nat} {a b : AT} (ha : l[i]? = some a) (hk : l[k]? = some b) (h : a.steps = b.steps) : i = k := by
 rw [hb.eq, List.getElem?_map] at ha hk
 obtain ⟨x, hx, rfl⟩ := Option.map_eq_some_iff.1 ha
 obtain ⟨y, hy, rfl⟩ := Option.map_eq_some_iff.1 hk
 obtain ⟨s, hs, hm⟩ := (Kr hv p.signals.length).2 x (List.mem_of_getElem? hx)
 obtain ⟨s', hs', hm'⟩ := (Kr hv p.signals.length).2 y (List.mem_of_getElem? hy)
 obtain ⟨_, f⟩ := Nz hv hn (JV hm) (show x.needs.length <= 1000 by have := (Ga hm).2.2.2.2.2.2.2.2; omega)
 obtain ⟨_, f'⟩ := Nz hv hn (JV hm') (show y.needs.length <= 1000 by have := (Ga hm').2.2.2.2.2.2.2.2; omega)
 rw [f.steps, f'.steps] at h
 have e := (Qt hv hm hm' h).1
 subst e
 have hnd := (Kr hv p.signals.length).1
 obtain ⟨h1, h2⟩ := List.getElem?_eq_some_iff.1 hx
 obtain ⟨h3, h4⟩ := List.getElem?_eq_some_iff.1 hy
 exact (List.getElem_inj hnd).1 (h2.trans h4.symm)
theorem RU.have (hv : CR p) (hn : Ct p n) {l : List AT} (hb : RU p n l) {s : Nat} {r : AT} (hs : s < p.signals.length) (hr : r ∈ F5 p (s : Int)) : ∃ q ∈ l, q = Ej n r /\ q.steps = r.steps := by
 obtain ⟨_, f⟩ := Nz hv hn (JV hr) (show r.needs.length <= 1000 by have := (Ga hr).2.2.2.2.2.2.2.2; omega)
 exact ⟨_, by rw [hb.eq]; exact List.mem_map.2 ⟨r, Yl hs hr, rfl⟩, rfl, f.steps⟩
end
end Go.E
/- Plain Lean: the document's check takes each valid plan. No condition. -/
namespace Go.E
open Go
theorem Tl {α β : Type} {l : List α} {step : Int -> Option (Int ⊕ β)} {b : β} (h0 : step (l.length : Int) = some (.inr b)) (h1 : ∀ (i : Nat) a, l[i]? = some a -> step (i : Int) = some (.inl ((i + 1 : Nat) : Int))) : AQ step 0 = some b := by
 obtain ⟨c, hc, rfl⟩ := Bu (l := l) (step := step) (Post := fun c => c = b) (fun _ _ => True) (fun _ => ⟨b, h0, rfl⟩) (fun i a ha _ => .inr ⟨h1 i a ha, trivial⟩)
 exact hc
end Go.E
/- Plain Lean: the program's check answers of every plan that is not too long; what it takes is valid. No condition. -/
namespace Go.E
open Go
end Go.E
/- Plain Lean: the program and the document say the same of what is wrong first with a chart (ProofChecks). No condition. -/
namespace Go.E
open Go
end Go.E
/- Plain Lean: what a book of locks says, whatever the order in which its maps are gone through. No condition. -/
namespace Go.E
open Go
def OZ (m : List (Int × List Int)) (e : Int) : Int := match m.find? (fun p => decide (e ∈ p.2)) with
 | some p => p.1
 | none => -1
def Wo (m : List (Int × List Int)) (e : Int) : Prop := ∀ p ∈ m, ∀ q ∈ m, e ∈ p.2 -> e ∈ q.2 -> p.1 = q.1
theorem QH {m : List (Int × List Int)} {e : Int} (h : Wo m e) {q : Int × List Int} (hq : q ∈ m) (he : e ∈ q.2) : OZ m e = q.1 := by
 unfold OZ
 cases hf : m.find? (fun p => decide (e ∈ p.2)) with
 | none => exact absurd he (by simpa using List.find?_eq_none.1 hf q hq)
 | some p => exact h p (List.mem_of_find?_eq_some hf) q hq (by simpa using List.find?_some hf) he
theorem QI {m : List (Int × List Int)} {e : Int} (h : ∀ p ∈ m, e ∉ p.2) : OZ m e = -1 := by
 unfold OZ
 cases hf : m.find? (fun p => decide (e ∈ p.2)) with
 | none => rfl
 | some p => exact absurd (by simpa using List.find?_some hf) (h p (List.mem_of_find?_eq_some hf))
theorem MC (b : AW) (e : Int) (h1 : Wo b.steps e) (hl : ∀ p ∈ b.steps, p.2.length < 1000000) : BK b e = some (OZ b.steps e) := by
 unfold BK
 refine Kh (fun s => (∀ p ∈ s, p ∈ b.steps) /\ ∀ p ∈ b.steps, e ∈ p.2 -> p ∈ s) (fun s hs h0 => ?_) (fun s j y hs hy => ?_) ⟨fun p hp => hp, fun p hp _ => hp⟩
 .simp only [Ez]
  rw [QI fun p hp he => by have := hs.2 p hp he; rw [h0] at this; cases this]
 have hmem := hs.1 y (List.mem_of_getElem? hy)
 have hp := IF hy
 simp only [FO, IJ y.2 (hl y hmem) e, Option.bind_some]
 by_cases he : e ∈ y.2
 .exact .inl (by rw [decide_eq_true he, QH h1 hmem he]; rfl)
 refine .inr ⟨s.eraseIdx j, by rw [decide_eq_false he]; rfl, rfl, fun p h => hs.1 p (hp.mem_iff.1 (List.mem_cons_of_mem _ h)), fun p h h' => ?_⟩
 rcases List.mem_cons.1 (hp.mem_iff.2 (hs.2 p h h')) with rfl | h2
 .exact absurd h' he
 exact h2
def QJ (m : List (Int × List Int)) (e : Int) : List Int := FR ((m.filter fun p => decide (e ∈ p.2)).map (·.1))
theorem MD (b : AW) (e : Int) (hm : b.zone.length < 1000000) (hl : ∀ p ∈ b.zone, p.2.length < 1000000) : Bq b e = some (QJ b.zone e) := by
 unfold Bq
 refine Kh (fun s => (∀ p ∈ s.2, p ∈ b.zone) /\ (s.1 ++ (s.2.filter fun p => decide (e ∈ p.2)).map (·.1)).Perm ((b.zone.filter fun p => decide (e ∈ p.2)).map (·.1))) (fun s hs h0 => ?_) (fun s j y hs hy => ?_) ⟨fun p hp => hp, by simp⟩
 .obtain ⟨a, r⟩ := s
  simp only at h0 hs
  subst h0
  have hp := hs.2
  simp only [List.filter_nil, List.map_nil, List.append_nil] at hp
  have hlen := hp.length_eq
  have h2 := List.length_filter_le (fun p => decide (e ∈ p.2)) b.zone
  rw [List.length_map] at hlen
  have e1 : IE a = some (FR a) := by unfold IE; rw [if_pos (by omega)]
  simp only [E0, e1, Option.bind_some, Option.map_some, OB hp]
  rfl
 obtain ⟨a, r⟩ := s
 obtain ⟨h1, h2⟩ := hs
 simp only at h1 h2 hy ⊢
 have hmem := h1 y (List.mem_of_getElem? hy)
 have hp := IF hy
 have hlen := h2.length_eq
 have h3 := List.length_filter_le (fun p => decide (e ∈ p.2)) b.zone
 simp only [List.length_append, List.length_map] at hlen
 have hsub : ∀ p ∈ r.eraseIdx j, p ∈ b.zone := fun p h => h1 p (hp.mem_iff.1 (List.mem_cons_of_mem _ h))
 have hpf := ((hp.filter fun p => decide (e ∈ p.2)).map (·.1))
 simp only [FP, IJ y.2 (hl y hmem) e, Option.bind_some]
 by_cases he : e ∈ y.2
 .refine .inr ⟨(a ++ [y.1], r.eraseIdx j), ?_, rfl, hsub, ?_⟩
  .rw [decide_eq_true he, BS (by simp; omega)]; rfl
  rw [List.filter_cons_of_pos (by simpa using he)] at hpf
  simp only [List.append_assoc, List.singleton_append]
  exact (List.Perm.append_left a hpf).trans h2
 refine .inr ⟨(a, r.eraseIdx j), by rw [decide_eq_false he]; rfl, rfl, hsub, ?_⟩
 rw [List.filter_cons_of_neg (by simpa using he)] at hpf
 exact (List.Perm.append_left a hpf).trans h2
def C7 (l : List AM) (e : Int) : Option Int := (l.find? fun x => x.elem == e).map (·.pos)
def Gc (b : AW) (o : Int) : List AM := (AV b.needs o).getD [] ++ (AV b.guards o).getD []
def CY (b : AW) (e : Int) (m : List (Int × List AM)) : List Int := m.filterMap fun p => C7 (Gc b p.1) e
def Zn (b : AW) (e : Int) : Prop := ∀ x ∈ CY b e b.needs, ∀ y ∈ CY b e b.needs, x = y
theorem Vj (l : List AM) (e : Int) (hl : l.length < 1000000) {β : Type} {step : Int -> Option (Int ⊕ β)} {no : β} {yes : Int -> β} (h0 : step (l.length : Int) = some (.inr no))
  (h1 : ∀ (i : Nat) x, l[i]? = some x -> step (i : Int) = bif x.elem == e then some (.inr (yes x.pos)) else some (.inl ((i + 1 : Nat) : Int))) : AQ step 0 = some (match C7 l e with | some q => yes q | none => no) := by
 obtain ⟨b, hb, hp⟩ := Bu (l := l) (step := step) (Post := fun b => b = match C7 l e with | some q => yes q | none => no) (fun _ x => x.elem ≠ e) (fun g => ⟨no, h0, by
  have : l.find? (fun x => x.elem == e) = none := List.find?_eq_none.2 fun x hx => by
   obtain ⟨i, hi⟩ := List.mem_iff_getElem?.1 hx
   simpa using g i x hi
  simp only [C7, this, Option.map_none]⟩) (fun i x hx hg => by
  rw [h1 i x hx]
  by_cases he : x.elem = e
  .refine .inl ⟨yes x.pos, by simp [he], ?_⟩
   have : l.find? (fun x => x.elem == e) = some x := by
    rw [List.find?_eq_some_iff_getElem]
    exact ⟨by simpa using he, i, Bh hx, (List.getElem?_eq_some_iff.1 hx).2, fun j hj => by
     have := hg j _ hj (List.getElem?_eq_getElem (by have := Bh hx; omega))
     simpa using this⟩
   simp only [C7, this, Option.map_some]
  exact .inr ⟨by rw [beq_eq_false_iff_ne.2 he]; rfl, he⟩)
 rw [hb, hp]
theorem Nu (b : AW) (e : Int) (hm : b.needs.length < 1000000) (hl : ∀ p ∈ b.needs, ((AV b.needs p.1).getD []).length < 100000 /\ ((AV b.guards p.1).getD []).length < 100000) (h1 : Zn b e) :
  BU b e = some ((CY b e b.needs).headD 0, ((CY b e b.needs).length : Int)) := by
 have hle := List.length_filterMap_le (fun p : Int × List AM => C7 (Gc b p.1) e) b.needs
 unfold BU
 refine Kh (fun s => (∀ p ∈ s.2.2, p ∈ b.needs) /\ 0 <= s.2.1 /\ s.2.1 + ((CY b e s.2.2).length : Int) = ((CY b e b.needs).length : Int) /\ (s.2.1 = 0 -> s.1 = 0) /\ (s.2.1 ≠ 0 -> s.1 = (CY b e b.needs).headD 0)) (fun s hs h0 => ?_) (fun s j y hs hy => ?_) ⟨fun p hp => hp, Int.le_refl _, by simp, fun _ => rfl, fun h => absurd rfl h⟩
 .obtain ⟨x, n, r⟩ := s
  simp only at h0 hs
  subst h0
  obtain ⟨-, a1, a2, a3, a4⟩ := hs
  simp only [CY, List.filterMap_nil, List.length_nil] at a2
  simp only [FQ]
  have e1 : n = ((CY b e b.needs).length : Int) := by unfold CY; omega
  have e2 : x = (CY b e b.needs).headD 0 := by
   by_cases hz : n = 0
   .rw [a3 hz]
    have : CY b e b.needs = [] := List.length_eq_zero_iff.1 (by omega)
    rw [this]; rfl
   exact a4 hz
  rw [e1, e2]
 obtain ⟨x, n, r⟩ := s
 obtain ⟨h2, a1, a2, a3, a4⟩ := hs
 simp only at h2 a1 a2 a3 a4 hy ⊢
 have hmem := h2 y (List.mem_of_getElem? hy)
 obtain ⟨l1, l2⟩ := hl y hmem
 have hp := IF hy
 have hsub : ∀ p ∈ r.eraseIdx j, p ∈ b.needs := fun p h => h2 p (hp.mem_iff.1 (List.mem_cons_of_mem _ h))
 have hpl := (hp.filterMap fun p : Int × List AM => C7 (Gc b p.1) e).length_eq
 have c1 : BL ((AV b.needs y.1).getD []) = some ((AV b.needs y.1).getD []) := D8 _ (by omega)
 have ha : (Gc b y.1).length < 1000000 := by unfold Gc; rw [List.length_append]; omega
 simp only [Fv, c1, Option.bind_some, BS (show ((AV b.needs y.1).getD []).length + ((AV b.guards y.1).getD []).length <= 4294967296 by omega)]
 have hn : n <= (CY b e b.needs).length := by omega
 have hlt : (CY b e b.needs).length < 1000000 := by unfold CY; omega
 have L := Vj (Gc b y.1) e ha (step := DI e (x, n, r) (r.eraseIdx j) (Gc b y.1)) (no := .inl (x, n, r.eraseIdx j)) (yes := fun q => .inl (q, Ab (n + 1), r.eraseIdx j)) (by simp only [DI, CF, cond_false]) (fun i z hz => by
  have := Bh hz
  simp only [DI, Bl hz, cond_true, Ai, hz, Option.bind_some, AX (show i < 1000000000 by omega)])
 unfold Gc at L
 rw [L]
 cases hf : C7 ((AV b.needs y.1).getD [] ++ (AV b.guards y.1).getD []) e with
 | none =>
  refine .inr ⟨(x, n, r.eraseIdx j), rfl, rfl, hsub, a1, ?_, a3, a4⟩
  rw [List.filterMap_cons_none (by unfold Gc; exact hf)] at hpl
  simp only
  unfold CY at a2 ⊢
  omega
 | some q =>
  have hq : q ∈ CY b e b.needs := List.mem_filterMap.2 ⟨y, hmem, by unfold Gc; exact hf⟩
  have hhd : q = (CY b e b.needs).headD 0 := by
   cases hh : CY b e b.needs with
   | nil => rw [hh] at hq; cases hq
   | cons z zs => exact h1 q hq z (by rw [hh]; simp)
  rw [List.filterMap_cons_some (by unfold Gc; exact hf), List.length_cons] at hpl
  have hw : Ab (n + 1) = n + 1 := CX (by omega) (by omega)
  refine .inr ⟨(q, Ab (n + 1), r.eraseIdx j), rfl, rfl, hsub, ?_, ?_, fun h => ?_, fun _ => hhd⟩
  .simp only [hw]; omega
  .simp only [hw]; unfold CY at a2 ⊢; omega
  simp only [hw] at h; omega
end Go.E
/- Plain Lean: of two roads each is taken for itself; which is refused beside the other. No condition. -/
namespace Go.E
open Go
structure D5 (n : Int) (r : AT) : Prop where
 one : 1 <= r.steps.length
 ls : r.steps.length <= 1000
 ln : r.needs.length <= 1000
 lg : r.guards.length <= 1000
 lz : r.zone.length <= 1000
 step : ∀ s ∈ r.steps, 0 <= s.elem /\ s.elem < n
 once : (r.steps.map (·.elem)).Nodup
 zone : ∀ e ∈ r.zone, 0 <= e /\ e < n /\ e ∉ r.steps.map (·.elem)
 need : ∀ x ∈ r.needs ++ r.guards, (0 <= x.elem /\ x.elem < n) /\ (x.pos = 1 \/ x.pos = 2)
 cons : Ny (r.needs ++ r.guards)
theorem N0 (b : AW) (e : Int) : DR b e = some (decide (0 <= e) && decide (e < b.elems)) := by
 unfold DR
 cases decide (0 <= e) <;> rfl
theorem Wp (b : AW) (r : AT) (h : D5 b.elems r) : Co b r = some true := by
 have h1 := h.one; have h2 := h.ls; have h3 := h.ln; have h4 := h.lg; have h5 := h.lz
 unfold Co
 rw [beq_eq_false_iff_ne.2 (show ((r.steps.length : Int)) ≠ 0 by omega)]
 simp only [cond_false]
 have one4 : ∀ (i : Nat) (l done : List AM) (s : Int × List (Int × Int)), s.1 = (i : Int) -> i <= 2 -> l.length <= 1000 -> (∀ x ∈ done ++ l, (0 <= x.elem /\ x.elem < b.elems) /\ (x.pos = 1 \/ x.pos = 2)) -> Ny (done ++ l) -> (∀ k v, AV s.2 k = some v -> ∃ x ∈ done, x.elem = k /\ x.pos = v) ->
   ∃ c', AQ (B1 b s l) (0, s.2) = some (.inl (((i + 1 : Nat) : Int), c')) /\ ∀ k v, AV c' k = some v -> ∃ x ∈ done ++ l, x.elem = k /\ x.pos = v := by
  intro i l done s hs hi hl hx hc hI
  obtain ⟨t, ht, c', rfl, hc'⟩ : ∃ t, AQ (B1 b s l) (0, s.2) = some t /\ ∃ c', t = .inl (((i + 1 : Nat) : Int), c') /\ ∀ k v, AV c' k = some v -> ∃ x ∈ done ++ l, x.elem = k /\ x.pos = v := by
   refine B4 (l := l) (fun j c => ∀ k v, AV c k = some v -> ∃ x ∈ done ++ l.take j, x.elem = k /\ x.pos = v) (fun c hc' => ?_) (fun j x c hj hc' => ?_) (c := s.2) (fun k v hk => by obtain ⟨x, hx, e⟩ := hI k v hk; exact ⟨x, by simpa using hx, e⟩)
   .rw [List.take_length] at hc'
    exact ⟨_, by simp only [B1, CF, cond_false, hs, AX (show i < 1000000000 by omega)], c, rfl, hc'⟩
   have hjl := Bh hj
   have hm : x ∈ done ++ l := List.mem_append_right _ (List.mem_of_getElem? hj)
   obtain ⟨⟨x1, x2⟩, x3⟩ := hx x hm
   have hp : ((bif (x.pos != 1) then bif (x.pos != 2) then some true else bif (AV c x.elem).isSome then some (((AV c x.elem).getD 0) != x.pos) else some false else bif (AV c x.elem).isSome then some (((AV c x.elem).getD 0) != x.pos) else some false : Option Bool)) = some false := by
    have hq : ((bif (AV c x.elem).isSome then some (((AV c x.elem).getD 0) != x.pos) else some false : Option Bool)) = some false := by
     cases ha : AV c x.elem with
     | none => rfl
     | some v =>
      obtain ⟨y, hy, y1, y2⟩ := hc' _ _ ha
      have hy' : y ∈ done ++ l := by
       rcases List.mem_append.1 hy with hy | hy
       .exact List.mem_append_left _ hy
       exact List.mem_append_right _ (List.mem_of_mem_take hy)
      have := hc y hy' x hm y1
      simp only [Option.isSome_some, cond_true, Option.getD_some, Option.some.injEq, bne_eq_false_iff_eq]
      omega
    rcases x3 with x3 | x3 <;> simp only [x3] at hq ⊢ <;> exact hq
   refine .inr ⟨Au x.elem x.pos c, ?_, fun k v hk => ?_⟩
   .simp only [B1, Bl hj, cond_true, Ai, hj, Option.bind_some, N0, decide_eq_true x1, decide_eq_true x2, Bool.and_self, Bool.not_true, cond_false, hp, AX (show j < 1000000000 by omega)]
   rw [Cr] at hk
   rw [List.take_add_one, hj]
   by_cases e : k = x.elem
   .rw [if_pos e] at hk; cases hk
    exact ⟨x, by simp, e.symm, rfl⟩
   rw [if_neg e] at hk
   obtain ⟨y, hy, e2⟩ := hc' k v hk
   exact ⟨y, by rw [<- List.append_assoc]; exact List.mem_append_left _ hy, e2⟩
  exact ⟨c', ht, hc'⟩
 have l3 : AQ (BM b r) (0, []) = some true := by
  obtain ⟨c1, e1, d1⟩ := one4 0 r.needs [] (0, []) rfl (by omega) h3 (fun x hx => h.need x (List.mem_append_left _ (by simpa using hx))) (fun x hx y hy => h.cons x (List.mem_append_left _ (by simpa using hx)) y (List.mem_append_left _ (by simpa using hy))) (fun k v hk => by simp [AV] at hk)
  obtain ⟨c2, e2, d2⟩ := one4 1 r.guards r.needs (1, c1) rfl (by omega) h4 h.need h.cons (fun k v hk => by simpa using d1 k v hk)
  have i0 : Aj ([r.needs, r.guards] : List (List AM)) 0 = some r.needs := rfl
  have i1 : Aj ([r.needs, r.guards] : List (List AM)) 1 = some r.guards := rfl
  have s1 : BM b r (0, []) = some (.inl (1, c1)) := by
   simp only [BM, i0, Option.bind_some]; rw [e1]; rfl
  have s2 : BM b r (1, c1) = some (.inl (2, c2)) := by
   simp only [BM, i1, Option.bind_some]; rw [e2]; rfl
  rw [CT s1, CT s2]
  exact Cq rfl
 obtain ⟨t, ht, rfl⟩ : ∃ t, AQ (CQ b r) (0, []) = some t /\ t = true := by
  refine B4 (l := r.steps) (fun j c => ∀ e, (AV c e).getD false = decide (e ∈ (r.steps.take j).map (·.elem))) (fun c hc => ?_) (fun j s c hj hc => ?_) (c := []) (fun e => by simp [AV])
  .rw [List.take_length] at hc
   refine ⟨true, ?_, rfl⟩
   have l2 : AQ (CB b r ((r.steps.length : Int), c)) 0 = some true := Tl (l := r.zone) (by simp only [CB, CF, cond_false, l3]; rfl) (fun i e he => by
    have := Bh he
    obtain ⟨z1, z2, z3⟩ := h.zone e (List.mem_of_getElem? he)
    simp only [CB, Bl he, cond_true, Ai, he, Option.bind_some, N0, decide_eq_true z1, decide_eq_true z2, Bool.and_self, Bool.not_true, cond_false, hc, decide_eq_false z3, AX (show i < 1000000000 by omega)])
   simp only [CQ, CF, cond_false, l2]; rfl
  have := Bh hj
  obtain ⟨s1, s2⟩ := h.step s (List.mem_of_getElem? hj)
  have hnew : s.elem ∉ (r.steps.take j).map (·.elem) := by
   intro hm
   obtain ⟨x, hx, hxe⟩ := List.mem_map.1 hm
   obtain ⟨i, hi, hie⟩ := MF hx
   have a1 : (r.steps.map (·.elem))[i]? = some s.elem := by rw [List.getElem?_map, hie]; simp [hxe]
   have a2 : (r.steps.map (·.elem))[j]? = some s.elem := by rw [List.getElem?_map, hj]; rfl
   have := (List.getElem?_inj (Bh a1) h.once).1 (a1.trans a2.symm)
   omega
  refine .inr ⟨Au s.elem true c, ?_, fun e => ?_⟩
  .simp only [CQ, Bl hj, cond_true, Ai, hj, Option.bind_some, N0, decide_eq_true s1, decide_eq_true s2, Bool.and_self, Bool.not_true, cond_false, hc, decide_eq_false hnew, AX (show j < 1000000000 by omega)]
  rw [Cr, DF hj]
  by_cases he : e = s.elem
  .simp [he]
  rw [if_neg he, hc]; simp only [List.mem_append, List.mem_singleton, he, or_false]
 exact ht
end Go.E
/- Plain Lean: what may be taken from a book of none, and beside one road (May, Take). No condition. -/
namespace Go.E
open Go
theorem Og {α β : Type} {l : List α} {step : Int -> Option (Int ⊕ β)} (bad : α -> Bool) (x : β) (fin : Option β) (h0 : step (l.length : Int) = fin.map .inr)
  (h1 : ∀ (i : Nat) a, l[i]? = some a -> step (i : Int) = bif bad a then some (.inr x) else some (.inl ((i + 1 : Nat) : Int))) : AQ step 0 = if l.any bad = true then some x else fin := by
 refine JQ (γ := Unit) l (fun i _ => (i : Int)) (fun _ _ r => if r.any bad = true then some x else fin) (fun _ => ?_) (fun i _ a r ha hi => ?_) ()
 .rw [h0]; simp
 cases hb : bad a with
 | true => left; rw [h1 i a ha, hb]; simp [hb]
 | false => right; exact ⟨(), by rw [h1 i a ha, hb]; rfl, by simp [hb]⟩
def Jh (ow : Int -> Int) (zo : Int -> List Int) (po : Int -> Int) (r : AT) : Int :=
 if (r.steps.any fun s => decide (0 <= ow s.elem) || decide (0 < ((zo s.elem).length : Int))) = true then 14 else if (r.zone.any fun e => decide (0 <= ow e)) = true then 14 else
  if (r.needs.any fun x => (po x.elem != 0) && (po x.elem != x.pos)) = true then 15 else if (r.guards.any fun x => (po x.elem != 0) && (po x.elem != x.pos)) = true then 15 else 0
theorem Sd (b : AW) (o : Int) (r : AT) (hr : D5 b.elems r) (ho : 0 <= o) (hh : Bf b o = some false) {ow : Int -> Int} {zo : Int -> List Int} {po : Int -> Int}
  (hO : ∀ e, BK b e = some (ow e)) (hZ : ∀ e, Bq b e = some (zo e)) (hH : ∀ e, ∃ k, BU b e = some (po e, k)) : BW b o r = some (Jh ow zo po r) := by
 have h2 := hr.ls; have h3 := hr.ln; have h4 := hr.lg; have h5 := hr.lz
 unfold BW
 simp only [decide_eq_false (show ¬ o < 0 by omega), cond_false, hh, Option.bind_some, Wp b r hr, Bool.not_true]
 have l4 : ∀ (l : List AM) (i : Nat), l.length <= 1000 -> i <= 2 -> AQ (Cd b (i : Int) l) 0 = if (l.any fun x => (po x.elem != 0) && (po x.elem != x.pos)) = true then some (.inr 15) else some (.inl ((i + 1 : Nat) : Int)) := by
  intro l i hl hi
  refine Og (l := l) _ _ _ (by simp only [Cd, CF, cond_false, AX (show i < 1000000000 by omega)]; rfl) (fun j x hx => ?_)
  have := Bh hx
  obtain ⟨k, hk⟩ := hH x.elem
  simp only [Cd, Bl hx, cond_true, Ai, hx, Option.bind_some, hk, AX (show j < 1000000000 by omega)]
  cases (po x.elem != 0) <;> rfl
 have i0 : Aj ([r.needs, r.guards] : List (List AM)) 0 = some r.needs := rfl
 have i1 : Aj ([r.needs, r.guards] : List (List AM)) 1 = some r.guards := rfl
 have s0 : CC b r 0 = AQ (Cd b ((0 : Nat) : Int) r.needs) 0 := by
  simp only [CC, i0, Option.bind_some]; rfl
 have s1 : CC b r 1 = AQ (Cd b ((1 : Nat) : Int) r.guards) 0 := by
  simp only [CC, i1, Option.bind_some]; rfl
 have l3 : AQ (CC b r) 0 = some (if (r.needs.any fun x => (po x.elem != 0) && (po x.elem != x.pos)) = true then 15 else if (r.guards.any fun x => (po x.elem != 0) && (po x.elem != x.pos)) = true then 15 else 0) := by
  rw [l4 _ 0 h3 (by omega)] at s0
  rw [l4 _ 1 h4 (by omega)] at s1
  by_cases c : (r.needs.any fun x => (po x.elem != 0) && (po x.elem != x.pos)) = true
  .rw [if_pos c] at s0 ⊢
   exact Cq s0
  rw [if_neg c] at s0 ⊢
  rw [CT s0]
  show AQ (CC b r) 1 = _
  by_cases c2 : (r.guards.any fun x => (po x.elem != 0) && (po x.elem != x.pos)) = true
  .rw [if_pos c2] at s1 ⊢
   exact Cq s1
  rw [if_neg c2] at s1 ⊢
  rw [CT s1]
  exact Cq rfl
 have l2 := Og (l := r.zone) (step := Cz b r) (fun e => decide (0 <= ow e)) 14 (AQ (CC b r) 0) (by simp only [Cz, CF, cond_false]) (fun i e he => by
  have := Bh he
  simp only [Cz, Bl he, cond_true, Ai, he, Option.bind_some, hO, AX (show i < 1000000000 by omega)])
 have l1 := Og (l := r.steps) (step := Da b r) (fun s => decide (0 <= ow s.elem) || decide (0 < ((zo s.elem).length : Int))) 14 (AQ (Cz b r) 0) (by simp only [Da, CF, cond_false]) (fun i s hs => by
  have := Bh hs
  simp only [Da, Bl hs, cond_true, Ai, hs, Option.bind_some, hO, hZ, AX (show i < 1000000000 by omega)]
  cases decide (0 <= ow s.elem) <;> rfl)
 rw [l1, l2, l3]
 unfold Jh
 repeat' split
 all_goals rfl
theorem Tm (b : AW) (o : Int) (r : AT) {e : Int} (h : BW b o r = some e) (he : e ≠ 0) : A9 b o r = some (b, e) := by
 have he' : (e != 0) = true := bne_iff_ne.2 he
 unfold A9
 rw [h]
 simp only [Option.bind_some, he', cond_true]
theorem Oa (b : AW) (o : Int) (r : AT) (hr : D5 b.elems r) (h : BW b o r = some 0) :
  A9 b o r = some (⟨b.elems, Au o (r.steps.map (·.elem)) b.steps, Au o r.zone b.zone, Au o r.needs b.needs, Au o r.guards b.guards⟩, 0) := by
 have h2 := hr.ls; have h3 := hr.ln; have h4 := hr.lg; have h5 := hr.lz
 unfold A9
 rw [h]
 simp only [Option.bind_some, bne_self_eq_false, cond_false]
 obtain ⟨t, ht, rfl⟩ := B4 (l := r.steps) (step := DJ b o r) (Post := fun t => t = (⟨b.elems, Au o (r.steps.map (·.elem)) b.steps, Au o r.zone b.zone, Au o r.needs b.needs, Au o r.guards b.guards⟩, 0)) (fun i c => c = (r.steps.take i).map (·.elem)) (fun c hc => by
   rw [List.take_length] at hc
   subst hc
   have c1 : CA r.zone = some r.zone := D8 _ (by omega)
   have c2 : BL r.needs = some r.needs := D8 _ (by omega)
   have c3 : BL r.guards = some r.guards := D8 _ (by omega)
   exact ⟨_, by simp only [DJ, CF, cond_false, c1, c2, c3, Option.bind_some, Option.map_some], rfl⟩) (fun i a c ha hc => by
   subst hc
   have := Bh ha
   refine .inr ⟨_, ?_, (DF ha).symm⟩
   simp only [DJ, Bl ha, cond_true, Ai, ha, Option.bind_some, BS (l := (r.steps.take i).map (·.elem)) (m := [a.elem]) (by simp; omega), AX (show i < 1000000000 by omega)]) (c := []) rfl
 exact ht
def Nv (n : Int) : AW := ⟨n, [], [], [], []⟩
def C6 (n a : Int) (r : AT) : AW := ⟨n, [(a, r.steps.map (·.elem))], [(a, r.zone)], [(a, r.needs)], [(a, r.guards)]⟩
def SI (a c : AT) : Int := Jh (fun e => if e ∈ a.steps.map (·.elem) then 0 else -1) (fun e => if e ∈ a.zone then [0] else []) (fun e => (C7 (a.needs ++ a.guards) e).getD 0) c
theorem ZM (n o : Int) (r : AT) (hr : D5 n r) (ho : 0 <= o) : A9 (Nv n) o r = some (C6 n o r, 0) := by
 have h := Sd (Nv n) o r hr ho rfl (ow := fun _ => -1) (zo := fun _ => []) (po := fun _ => 0)
  (fun e => by rw [MC _ _ (fun p hp => by cases hp) (fun p hp => by cases hp)]; rfl)
  (fun e => by rw [MD _ _ (by simp [Nv]) (fun p hp => by cases hp)]; rfl)
  (fun e => ⟨0, by rw [Nu _ _ (by simp [Nv]) (fun p hp => by cases hp) (fun x hx => by cases hx)]; rfl⟩)
 have h0 : Jh (fun _ => -1) (fun _ => []) (fun _ => 0) r = 0 := by
  unfold Jh
  simp
 rw [h0] at h
 rw [Oa (Nv n) o r hr h]
 rfl
theorem Xu {ow ow' : Int -> Int} {zo zo' : Int -> List Int} {po : Int -> Int} (r : AT) (h1 : ∀ e, (0 <= ow e ↔ 0 <= ow' e)) (h2 : ∀ e, (zo e).length = (zo' e).length) : Jh ow zo po r = Jh ow' zo' po r := by
 unfold Jh
 have e1 : ∀ e, decide (0 <= ow e) = decide (0 <= ow' e) := fun e => decide_eq_decide.2 (h1 e)
 simp only [e1, h2]
theorem YR (n o q : Int) (a c : AT) (ha : D5 n a) (hc : D5 n c) (ho : 0 <= o) (hq : 0 <= q) (hne : q ≠ o) : BW (C6 n o a) q c = some (SI a c) := by
 have hN : CY (C6 n o a) = fun e m => m.filterMap fun p => C7 (Gc (C6 n o a) p.1) e := rfl
 have hall : Gc (C6 n o a) o = a.needs ++ a.guards := by simp [Gc, C6, AV]
 have h := Sd (C6 n o a) q c hc hq (by
   have : (q == o) = false := beq_eq_false_iff_ne.2 hne
   unfold Bf
   simp only [C6, AV, this, Bool.false_eq_true, if_false, Option.getD_none]
   rfl) (ow := fun e => if e ∈ a.steps.map (·.elem) then o else -1) (zo := fun e => if e ∈ a.zone then [o] else []) (po := fun e => (C7 (a.needs ++ a.guards) e).getD 0)
  (fun e => by
   rw [MC _ _ (fun p hp p' hp' _ _ => by simp [C6] at hp hp'; rw [hp, hp']) (fun p hp => by simp [C6] at hp; subst hp; have := ha.ls; simp; omega)]
   by_cases he : e ∈ a.steps.map (·.elem)
   .simp only [if_pos he]
    rw [QH (q := (o, a.steps.map (·.elem))) (fun p hp p' hp' _ _ => by simp [C6] at hp hp'; rw [hp, hp']) (by simp [C6]) he]
   simp only [if_neg he]
   rw [QI fun p hp => by simp only [C6, List.mem_singleton] at hp; subst hp; exact he])
  (fun e => by
   rw [MD _ _ (by simp [C6]) (fun p hp => by simp [C6] at hp; subst hp; have := ha.lz; simp; omega)]
   by_cases he : e ∈ a.zone
   .simp only [if_pos he, QJ, C6, List.filter_cons, decide_eq_true he]; rfl
   simp only [if_neg he, QJ, C6, List.filter_cons, decide_eq_false he]; rfl)
  (fun e => by
   have hL : CY (C6 n o a) e (C6 n o a).needs = (C7 (a.needs ++ a.guards) e).toList := by
    show [(o, a.needs)].filterMap _ = _
    simp only [List.filterMap_cons, List.filterMap_nil, hall]
    cases C7 (a.needs ++ a.guards) e <;> rfl
   refine ⟨((C7 (a.needs ++ a.guards) e).toList.length : Int), (Nu _ _ (by simp [C6]) (fun p hp => ?_) (fun x hx y hy => ?_)).trans ?_⟩
   .simp only [C6, List.mem_singleton] at hp
    subst hp
    have := ha.ln; have := ha.lg
    simp [C6, AV]; omega
   .rw [hL] at hx hy
    cases hf : C7 (a.needs ++ a.guards) e with
    | none => rw [hf] at hx; cases hx
    | some v => rw [hf] at hx hy; simp at hx hy; rw [hx, hy]
   rw [hL]
   cases C7 (a.needs ++ a.guards) e <;> rfl)
 rw [Xu (ow' := fun e => if e ∈ a.steps.map (·.elem) then 0 else -1) (zo' := fun e => if e ∈ a.zone then [0] else []) c (fun e => by split <;> omega) (fun e => by split <;> rfl)] at h
 exact h
end Go.E
/- Plain Lean: which of two roads is refused beside the other, as the book and as the document say; LockClash. No condition. -/
namespace Go.E
open Go
def Wq (a c : AT) : Prop := (∃ s ∈ c.steps, s.elem ∈ a.steps.map (·.elem) \/ s.elem ∈ a.zone) \/ ∃ e ∈ c.zone, e ∈ a.steps.map (·.elem)
def Wr (a c : AT) : Prop := ∃ x ∈ c.needs ++ c.guards, ∃ y ∈ a.needs ++ a.guards, y.elem = x.elem /\ y.pos ≠ x.pos
theorem Wq.symm {a c : AT} (h : Wq a c) : Wq c a := by
 rcases h with ⟨s, hs, h | h⟩ | ⟨e, he, h⟩
 .obtain ⟨t, ht, e⟩ := List.mem_map.1 h
  exact .inl ⟨t, ht, .inl (e ▸ List.mem_map_of_mem hs)⟩
 .exact .inr ⟨s.elem, h, List.mem_map_of_mem hs⟩
 obtain ⟨t, ht, e2⟩ := List.mem_map.1 h
 exact .inl ⟨t, ht, .inr (e2 ▸ he)⟩
theorem Wr.symm {a c : AT} (h : Wr a c) : Wr c a := by
 obtain ⟨x, hx, y, hy, e1, e2⟩ := h
 exact ⟨y, hy, x, hx, e1.symm, fun e => e2 e.symm⟩
theorem NW {l : List AM} {e v : Int} (h : C7 l e = some v) : ∃ y ∈ l, y.elem = e /\ y.pos = v := by
 unfold C7 at h
 obtain ⟨y, hy, rfl⟩ := Option.map_eq_some_iff.1 h
 exact ⟨y, List.mem_of_find?_eq_some hy, by simpa using List.find?_some hy, rfl⟩
theorem Vk {l : List AM} {e : Int} (h : C7 l e = none) : ∀ y ∈ l, y.elem ≠ e := by
 unfold C7 at h
 intro y hy he
 have := List.find?_eq_none.1 (Option.map_eq_none_iff.1 h) y hy
 simp [he] at this
end Go.E
/- Plain Lean: two roads of a plan, each taken first (LockClash). No condition. -/
namespace Go.E
open Go
theorem ZP {k : Nat} (h : k <= 40) : (if (if (40 : Int) < (k : Int) then (40 : Int) else (k : Int)) > 0 then (if (40 : Int) < (k : Int) then (40 : Int) else (k : Int)) else 0) = (k : Int) := by
 rw [if_neg (show ¬ (40 : Int) < (k : Int) by omega)]
 split <;> omega
theorem Ws (p : AH) : ∃ c e, G3 p = some (c, e) /\ (e = true -> CR p /\ ∃ n, Ct p n /\ (DG p).1.length <= 64 /\ c = (DG p).1.map (Ej n)) := by
 unfold G3
 obtain ⟨b0, h1, h2⟩ := Ub p
 simp only [h1, Option.bind_some]
 cases b0 with
 | false => exact ⟨[], false, rfl, by simp⟩
 | true =>
  have hv := h2 rfl
  have hc := Ui h1
  obtain ⟨n, hN, hn⟩ := Ya p hv
  obtain ⟨c, e, e1, e2⟩ := Vh hv hn hc
  simp only [Bool.not_true, cond_false, e1, Option.bind_some]
  refine ⟨c.roads, (e == 0), rfl, fun h => ?_⟩
  obtain ⟨e3, rfl⟩ := e2 (by simpa using h)
  have hl : (DG p).1.length <= 64 := by
   unfold DG
   split
   .simp
   simp only; omega
  exact ⟨hv, n, hn, hl, rfl⟩
end Go.E
/- Plain Lean: the owners of a book, whatever the order. No condition. -/
namespace Go.E
open Go
def K6 (b : AW) (o : Int) : Bool := decide (0 < Ab ((Ab ((((AV b.steps o).getD []).length : Int) + (((AV b.zone o).getD []).length : Int))) + (((AV b.guards o).getD []).length : Int)))
def XI (b : AW) : List Int := FR ((b.steps.filter fun p => K6 b p.1).map (·.1))
theorem Qg (b : AW) (hm : b.steps.length < 1000000) : Bi b = some (XI b) := by
 unfold Bi
 refine Kh (fun s => (s.1 ++ (s.2.filter fun p => K6 b p.1).map (·.1)).Perm ((b.steps.filter fun p => K6 b p.1).map (·.1))) (fun s hs h0 => ?_) (fun s j y hs hy => ?_) (by simp)
 .obtain ⟨a, r⟩ := s
  simp only at h0 hs
  subst h0
  have hp := hs
  simp only [List.filter_nil, List.map_nil, List.append_nil] at hp
  have hlen := hp.length_eq
  have h2 := List.length_filter_le (fun p => K6 b p.1) b.steps
  rw [List.length_map] at hlen
  have e1 : IE a = some (FR a) := by unfold IE; rw [if_pos (by omega)]
  simp only [EX, e1, Option.bind_some, Option.map_some, OB hp]
  rfl
 obtain ⟨a, r⟩ := s
 simp only at hs hy ⊢
 have hp := IF hy
 have hlen := hs.length_eq
 have h3 := List.length_filter_le (fun p => K6 b p.1) b.steps
 simp only [List.length_append, List.length_map] at hlen
 have hpf := ((hp.filter fun p => K6 b p.1).map (·.1))
 have hh : Bf b y.1 = some (K6 b y.1) := rfl
 simp only [E1, hh, Option.bind_some]
 cases he : K6 b y.1 with
 | true =>
  refine .inr ⟨(a ++ [y.1], r.eraseIdx j), ?_, rfl, ?_⟩
  .rw [BS (by simp; omega)]; rfl
  rw [List.filter_cons_of_pos (by simpa using he)] at hpf
  simp only [List.append_assoc, List.singleton_append]
  exact (List.Perm.append_left a hpf).trans hs
 | false =>
  refine .inr ⟨(a, r.eraseIdx j), rfl, rfl, ?_⟩
  rw [List.filter_cons_of_neg (by simp [he])] at hpf
  exact (List.Perm.append_left a hpf).trans hs
end Go.E
/- Plain Lean: whether a road suits a book is answered of every road (right). No condition. -/
namespace Go.E
open Go
structure Se (r : AT) : Prop where
 ls : r.steps.length <= 1000
 ln : r.needs.length <= 1000
 lg : r.guards.length <= 1000
 lz : r.zone.length <= 1000
theorem TD (b : AW) (r : AT) (h : Se r) : ∃ t, Co b r = some t /\ (t = true -> D5 b.elems r) := by
 have h2 := h.ls; have h3 := h.ln; have h4 := h.lg; have h5 := h.lz
 unfold Co
 by_cases h0 : (r.steps.length : Int) = 0
 .exact ⟨false, by simp only [h0, beq_self_eq_true, cond_true], by simp⟩
 rw [beq_eq_false_iff_ne.2 h0]
 simp only [cond_false]
 have one4 : ∀ (i : Nat) (l done : List AM) (s : Int × List (Int × Int)), s.1 = (i : Int) -> i <= 2 -> l.length <= 1000 -> (∀ x ∈ done, (0 <= x.elem /\ x.elem < b.elems) /\ (x.pos = 1 \/ x.pos = 2)) -> Ny done -> (∀ x ∈ done, AV s.2 x.elem = some x.pos) -> (∀ k v, AV s.2 k = some v -> ∃ x ∈ done, x.elem = k /\ x.pos = v) ->
   ∃ t, AQ (B1 b s l) (0, s.2) = some t /\ (t = .inr false \/ ∃ c', t = .inl (((i + 1 : Nat) : Int), c') /\ (∀ x ∈ done ++ l, (0 <= x.elem /\ x.elem < b.elems) /\ (x.pos = 1 \/ x.pos = 2)) /\ Ny (done ++ l) /\ (∀ x ∈ done ++ l, AV c' x.elem = some x.pos) /\ ∀ k v, AV c' k = some v -> ∃ x ∈ done ++ l, x.elem = k /\ x.pos = v) := by
  intro i l done s hs hi hl hx hc hI hJ
  refine B4 (l := l) (fun j c => (∀ x ∈ done ++ l.take j, (0 <= x.elem /\ x.elem < b.elems) /\ (x.pos = 1 \/ x.pos = 2)) /\ Ny (done ++ l.take j) /\ (∀ x ∈ done ++ l.take j, AV c x.elem = some x.pos) /\ ∀ k v, AV c k = some v -> ∃ x ∈ done ++ l.take j, x.elem = k /\ x.pos = v) (fun c hc' => ?_) (fun j x c hj hc' => ?_) (c := s.2) (by simpa using ⟨hx, hc, hI, hJ⟩)
  .rw [List.take_length] at hc'
   exact ⟨_, by simp only [B1, CF, cond_false, hs, AX (show i < 1000000000 by omega)], .inr ⟨c, rfl, hc'⟩⟩
  have hjl := Bh hj
  obtain ⟨d1, d2, d3, d4⟩ := hc'
  simp only [B1, Bl hj, cond_true, Ai, hj, Option.bind_some, N0, AX (show j < 1000000000 by omega)]
  by_cases x1 : 0 <= x.elem
  .by_cases x2 : x.elem < b.elems
   .simp only [decide_eq_true x1, decide_eq_true x2, Bool.and_self, Bool.not_true, cond_false]
    by_cases x3 : x.pos = 1 \/ x.pos = 2
    .have hp : ((bif (x.pos != 1) then bif (x.pos != 2) then some true else bif (AV c x.elem).isSome then some (((AV c x.elem).getD 0) != x.pos) else some false else bif (AV c x.elem).isSome then some (((AV c x.elem).getD 0) != x.pos) else some false : Option Bool)) = some ((AV c x.elem).isSome && ((AV c x.elem).getD 0 != x.pos)) := by
      rcases x3 with x3 | x3 <;> simp only [x3] <;> cases (AV c x.elem).isSome <;> rfl
     rw [hp]
     simp only [Option.bind_some]
     cases hq : ((AV c x.elem).isSome && ((AV c x.elem).getD 0 != x.pos)) with
     | true => exact .inl ⟨_, rfl, .inl rfl⟩
     | false =>
      have e1 : l.take (j + 1) = l.take j ++ [x] := by rw [List.take_add_one, hj]; rfl
      have hold : ∀ y ∈ done ++ l.take j, y.elem = x.elem -> y.pos = x.pos := fun y hy he => by
       have := d3 y hy
       rw [he] at this
       rw [this] at hq
       simpa using hq
      have hmem : ∀ y, y ∈ done ++ l.take (j + 1) ↔ y ∈ done ++ l.take j \/ y = x := fun y => by
       rw [e1, <- List.append_assoc, List.mem_append, List.mem_singleton]
      refine .inr ⟨Au x.elem x.pos c, rfl, fun y hy => ?_, fun y hy z hz he => ?_, fun y hy => ?_, fun k v hk => ?_⟩
      .rcases (hmem y).1 hy with hy | rfl
       .exact d1 y hy
       exact ⟨⟨x1, x2⟩, x3⟩
      .rcases (hmem y).1 hy with hy | rfl
       .rcases (hmem z).1 hz with hz | rfl
        .exact d2 y hy z hz he
        exact hold y hy he
       rcases (hmem z).1 hz with hz | rfl
       .exact (hold z hz he.symm).symm
       rfl
      .rw [Cr]
       rcases (hmem y).1 hy with hy | rfl
       .by_cases he : y.elem = x.elem
        .rw [if_pos he, hold y hy he]
        rw [if_neg he]; exact d3 y hy
       rw [if_pos rfl]
      rw [Cr] at hk
      by_cases he : k = x.elem
      .rw [if_pos he] at hk; cases hk
       exact ⟨x, (hmem x).2 (.inr rfl), he.symm, rfl⟩
      rw [if_neg he] at hk
      obtain ⟨y, hy, e2⟩ := d4 k v hk
      exact ⟨y, (hmem y).2 (.inl hy), e2⟩
    have y1 : (x.pos != 1) = true := bne_iff_ne.2 fun h => x3 (.inl h)
    have y2 : (x.pos != 2) = true := bne_iff_ne.2 fun h => x3 (.inr h)
    exact .inl ⟨_, by simp only [y1, y2, cond_true, Option.bind_some], .inl rfl⟩
   exact .inl ⟨_, by simp only [decide_eq_false x2, Bool.and_false, Bool.not_false, cond_true, Option.bind_some], .inl rfl⟩
  exact .inl ⟨_, by simp only [decide_eq_false x1, Bool.false_and, Bool.not_false, cond_true, Option.bind_some], .inl rfl⟩
 have i0 : Aj ([r.needs, r.guards] : List (List AM)) 0 = some r.needs := rfl
 have i1 : Aj ([r.needs, r.guards] : List (List AM)) 1 = some r.guards := rfl
 obtain ⟨t3, l3, p3⟩ : ∃ t, AQ (BM b r) (0, []) = some t /\ (t = true -> (∀ x ∈ r.needs ++ r.guards, (0 <= x.elem /\ x.elem < b.elems) /\ (x.pos = 1 \/ x.pos = 2)) /\ Ny (r.needs ++ r.guards)) := by
  obtain ⟨u, e1, d⟩ := one4 0 r.needs [] (0, []) rfl (by omega) h3 (fun x hx => by cases hx) (fun x hx => by cases hx) (fun x hx => by cases hx) (fun k v hk => by simp [AV] at hk)
  have s1 : BM b r (0, []) = some u := by
   simp only [BM, i0, Option.bind_some]; rw [e1]; rfl
  rcases d with rfl | ⟨c1, rfl, d1, d2, d3, d4⟩
  .exact ⟨false, Cq s1, by simp⟩
  simp only [List.nil_append] at d1 d2 d3 d4
  obtain ⟨u, e1, d⟩ := one4 1 r.guards r.needs (1, c1) rfl (by omega) h4 d1 d2 d3 d4
  have s2 : BM b r (1, c1) = some u := by
   simp only [BM, i1, Option.bind_some]; rw [e1]; rfl
  rw [CT s1]
  show ∃ t, AQ (BM b r) (1, c1) = some t /\ _
  rcases d with rfl | ⟨c2, rfl, d1, d2, -, -⟩
  .exact ⟨false, Cq s2, by simp⟩
  rw [CT s2]
  exact ⟨true, Cq rfl, fun _ => ⟨d1, d2⟩⟩
 refine B4 (l := r.steps) (fun j c => (∀ e, (AV c e).getD false = decide (e ∈ (r.steps.take j).map (·.elem))) /\ ((r.steps.take j).map (·.elem)).Nodup /\ ∀ s ∈ r.steps.take j, 0 <= s.elem /\ s.elem < b.elems) (fun c hc => ?_) (fun j s c hj hc => ?_) (c := []) ⟨fun e => by simp [AV], by simp, by simp⟩
 .rw [List.take_length] at hc
  obtain ⟨c1, c2, c3⟩ := hc
  obtain ⟨t, ht, hp⟩ : ∃ t, AQ (CB b r ((r.steps.length : Int), c)) 0 = some t /\ (t = true -> D5 b.elems r) := by
   refine Bu (l := r.zone) (fun _ e => 0 <= e /\ e < b.elems /\ e ∉ r.steps.map (·.elem)) (fun g => ⟨t3, by simp only [CB, CF, cond_false, l3]; rfl, fun h' => ⟨by omega, h2, h3, h4, h5, c3, c2, fun e he => ?_, (p3 h').1, (p3 h').2⟩⟩) (fun i e he _ => ?_)
   .obtain ⟨i, hi⟩ := List.mem_iff_getElem?.1 he
    exact g i e hi
   have := Bh he
   simp only [CB, Bl he, cond_true, Ai, he, Option.bind_some, N0, c1, AX (show i < 1000000000 by omega)]
   by_cases x1 : 0 <= e
   .by_cases x2 : e < b.elems
    .by_cases x3 : e ∈ r.steps.map (·.elem)
     .exact .inl ⟨false, by simp only [decide_eq_true x1, decide_eq_true x2, decide_eq_true x3, Bool.and_self, Bool.not_true, cond_false, Option.bind_some, cond_true], by simp⟩
     exact .inr ⟨by simp only [decide_eq_true x1, decide_eq_true x2, decide_eq_false x3, Bool.and_self, Bool.not_true, cond_false, Option.bind_some], x1, x2, x3⟩
    exact .inl ⟨false, by simp only [decide_eq_false x2, Bool.and_false, Bool.not_false, cond_true, Option.bind_some], by simp⟩
   exact .inl ⟨false, by simp only [decide_eq_false x1, Bool.false_and, Bool.not_false, cond_true, Option.bind_some], by simp⟩
  exact ⟨t, by simp only [CQ, CF, cond_false, ht]; rfl, hp⟩
 obtain ⟨c1, c2, c3⟩ := hc
 have := Bh hj
 simp only [CQ, Bl hj, cond_true, Ai, hj, Option.bind_some, N0, c1, AX (show j < 1000000000 by omega)]
 by_cases x1 : 0 <= s.elem
 .by_cases x2 : s.elem < b.elems
  .by_cases x3 : s.elem ∈ (r.steps.take j).map (·.elem)
   .exact .inl ⟨false, by simp only [decide_eq_true x1, decide_eq_true x2, decide_eq_true x3, Bool.and_self, Bool.not_true, cond_false, Option.bind_some, cond_true], by simp⟩
   refine .inr ⟨Au s.elem true c, by simp only [decide_eq_true x1, decide_eq_true x2, decide_eq_false x3, Bool.and_self, Bool.not_true, cond_false, Option.bind_some], fun e => ?_, ?_, fun q hq => ?_⟩
   .rw [Cr, DF hj]
    by_cases he : e = s.elem
    .simp [he]
    rw [if_neg he, c1]; simp only [List.mem_append, List.mem_singleton, he, or_false]
   .rw [DF hj, List.nodup_append]
    exact ⟨c2, by simp, fun x hx y hy e => by simp at hy; subst hy; subst e; exact x3 hx⟩
   rw [List.take_add_one, hj] at hq
   rcases List.mem_append.1 hq with hq | hq
   .exact c3 q hq
   simp at hq; subst hq; exact ⟨x1, x2⟩
  exact .inl ⟨false, by simp only [decide_eq_false x2, Bool.and_false, Bool.not_false, cond_true, Option.bind_some], by simp⟩
 exact .inl ⟨false, by simp only [decide_eq_false x1, Bool.false_and, Bool.not_false, cond_true, Option.bind_some], by simp⟩
end Go.E
/- Plain Lean: a book as a row of owners with what they hold; Has, Owner, Zones, Held, May, Take on it. No condition. -/
namespace Go.E
open Go
structure Dq where
 st : List Int
 zn : List Int
 nd : List AM
 gd : List AM
def bk (n : Int) (L : List (Int × Dq)) : AW := ⟨n, L.map fun p => (p.1, p.2.st), L.map fun p => (p.1, p.2.zn), L.map fun p => (p.1, p.2.nd), L.map fun p => (p.1, p.2.gd)⟩
def I7 (r : AT) : Dq := ⟨r.steps.map (·.elem), r.zone, r.needs, r.guards⟩
structure Eb (L : List (Int × Dq)) : Prop where
 keys : (L.map (·.1)).Nodup
 pos : ∀ p ∈ L, 0 <= p.1
 len : L.length <= 1000
 small : ∀ p ∈ L, (p.2.st.length <= 1000 /\ p.2.zn.length <= 1000) /\ p.2.nd.length <= 1000 /\ p.2.gd.length <= 1000
 holds : ∀ p ∈ L, 0 < p.2.st.length + p.2.zn.length + p.2.gd.length
 apart : ∀ p ∈ L, ∀ q ∈ L, ∀ e, e ∈ p.2.st -> e ∈ q.2.st -> p.1 = q.1
 zone : ∀ p ∈ L, ∀ q ∈ L, ∀ e, e ∈ p.2.st -> e ∉ q.2.zn
 agree : ∀ p ∈ L, ∀ q ∈ L, ∀ x ∈ p.2.nd ++ p.2.gd, ∀ y ∈ q.2.nd ++ q.2.gd, x.elem = y.elem -> x.pos = y.pos
 posn : ∀ p ∈ L, ∀ x ∈ p.2.nd ++ p.2.gd, x.pos = 1 \/ x.pos = 2
theorem Hg {α : Type} {L : List (Int × Dq)} (f : Dq -> α) (hk : (L.map (·.1)).Nodup) {p : Int × Dq} (hp : p ∈ L) : AV (L.map fun p => (p.1, f p.2)) p.1 = some (f p.2) := by
 induction L with
 | nil => cases hp
 | cons q L ih =>
  simp only [List.map_cons, List.nodup_cons] at hk
  simp only [List.map_cons, AV]
  rcases List.mem_cons.1 hp with rfl | hp
  .simp
  have : ¬ p.1 = q.1 := fun e => hk.1 (e ▸ List.mem_map_of_mem hp)
  rw [if_neg (by simpa using this)]
  exact ih hk.2 hp
theorem NY {α : Type} {L : List (Int × Dq)} (f : Dq -> α) {o : Int} (ho : o ∉ L.map (·.1)) : AV (L.map fun p => (p.1, f p.2)) o = none := by
 induction L with
 | nil => rfl
 | cons q L ih =>
  simp only [List.map_cons, List.mem_cons, not_or] at ho
  simp only [List.map_cons, AV]
  rw [if_neg (by simpa using ho.1)]
  exact ih ho.2
theorem MS {α : Type} {L : List (Int × Dq)} (f : Dq -> α) {o : Int} (v : α) (ho : o ∉ L.map (·.1)) : Au o v (L.map fun p => (p.1, f p.2)) = (L.map fun p => (p.1, f p.2)) ++ [(o, v)] := by
 induction L with
 | nil => rfl
 | cons q L ih =>
  simp only [List.map_cons, List.mem_cons, not_or] at ho
  simp only [List.map_cons, Au, List.cons_append]
  rw [if_neg (by simpa using ho.1), ih ho.2]
variable {n : Int} {L : List (Int × Dq)}
theorem Pm (hI : Eb L) (o : Int) : Bf (bk n L) o = some (decide (o ∈ L.map (·.1))) := by
 unfold Bf
 refine congrArg some (decide_eq_decide.2 ?_)
 simp only [bk]
 by_cases ho : o ∈ L.map (·.1)
 .obtain ⟨p, hp, rfl⟩ := List.mem_map.1 ho
  obtain ⟨⟨s1, s2⟩, s3, s4⟩ := hI.small p hp
  have s5 := hI.holds p hp
  rw [Hg (·.st) hI.keys hp, Hg (·.zn) hI.keys hp, Hg (·.gd) hI.keys hp]
  simp only [Option.getD_some]
  rw [CX (n := (p.2.st.length : Int) + (p.2.zn.length : Int)) (by omega) (by omega), CX (n := (p.2.st.length : Int) + (p.2.zn.length : Int) + (p.2.gd.length : Int)) (by omega) (by omega)]
  exact ⟨fun _ => ho, fun _ => by omega⟩
 rw [NY (·.st) ho, NY (·.zn) ho, NY (·.gd) ho]
 exact ⟨fun h => absurd h (by decide), fun h => absurd h ho⟩
def NZ (L : List (Int × Dq)) (e : Int) : Int := OZ (L.map fun p => (p.1, p.2.st)) e
theorem XJ (hI : Eb L) (e : Int) : Wo (L.map fun p => (p.1, p.2.st)) e := by
 intro a ha b hb h1 h2
 obtain ⟨p, hp, rfl⟩ := List.mem_map.1 ha
 obtain ⟨q, hq, rfl⟩ := List.mem_map.1 hb
 exact hI.apart p hp q hq e h1 h2
theorem Tn (hI : Eb L) (e : Int) : BK (bk n L) e = some (NZ L e) := MC (bk n L) e (XJ hI e) (fun a ha => by
 obtain ⟨p, hp, rfl⟩ := List.mem_map.1 ha
 have := (hI.small p hp).1.1
 simp only; omega)
theorem Xv (hI : Eb L) {e : Int} {p : Int × Dq} (hp : p ∈ L) (he : e ∈ p.2.st) : NZ L e = p.1 := QH (XJ hI e) (q := (p.1, p.2.st)) (List.mem_map.2 ⟨p, hp, rfl⟩) he
theorem Xw {e : Int} (h : ∀ p ∈ L, e ∉ p.2.st) : NZ L e = -1 := QI fun a ha => by
 obtain ⟨p, hp, rfl⟩ := List.mem_map.1 ha
 exact h p hp
theorem QK (hI : Eb L) (e : Int) : 0 <= NZ L e ↔ ∃ p ∈ L, e ∈ p.2.st := by
 constructor
 .intro h
  refine Classical.byContradiction fun hn => ?_
  rw [Xw fun p hp he => hn ⟨p, hp, he⟩] at h
  exact absurd h (by decide)
 rintro ⟨p, hp, he⟩
 rw [Xv hI hp he]
 exact hI.pos p hp
def Na (L : List (Int × Dq)) (e : Int) : List Int := QJ (L.map fun p => (p.1, p.2.zn)) e
theorem To (hI : Eb L) (e : Int) : Bq (bk n L) e = some (Na L e) := MD (bk n L) e (by have := hI.len; simp [bk]; omega) (fun a ha => by
 obtain ⟨p, hp, rfl⟩ := List.mem_map.1 ha
 have := (hI.small p hp).1.2
 simp only; omega)
theorem Xx (e : Int) : 0 < (Na L e).length ↔ ∃ p ∈ L, e ∈ p.2.zn := by
 unfold Na QJ
 rw [(ES _).length_eq, List.length_map, List.length_pos_iff_exists_mem]
 constructor
 .rintro ⟨a, ha⟩
  obtain ⟨h1, h2⟩ := List.mem_filter.1 ha
  obtain ⟨p, hp, rfl⟩ := List.mem_map.1 h1
  exact ⟨p, hp, by simpa using h2⟩
 rintro ⟨p, hp, he⟩
 exact ⟨(p.1, p.2.zn), List.mem_filter.2 ⟨List.mem_map.2 ⟨p, hp, rfl⟩, by simpa using he⟩⟩
theorem Ym (hI : Eb L) {p : Int × Dq} (hp : p ∈ L) : Gc (bk n L) p.1 = p.2.nd ++ p.2.gd := by
 unfold Gc
 simp only [bk]
 rw [Hg (·.nd) hI.keys hp, Hg (·.gd) hI.keys hp]
 rfl
def MT (L : List (Int × Dq)) (e : Int) : Int := (L.filterMap fun p => C7 (p.2.nd ++ p.2.gd) e).headD 0
def Zo (L : List (Int × Dq)) (e : Int) : Int := ((L.filterMap fun p => C7 (p.2.nd ++ p.2.gd) e).length : Int)
theorem Xy (hI : Eb L) (e : Int) : CY (bk n L) e (bk n L).needs = L.filterMap fun p => C7 (p.2.nd ++ p.2.gd) e := by
 unfold CY
 show List.filterMap _ (L.map fun p => (p.1, p.2.nd)) = _
 rw [List.filterMap_map]
 have : ∀ M : List (Int × Dq), (∀ p ∈ M, p ∈ L) -> M.filterMap ((fun p : Int × List AM => C7 (Gc (bk n L) p.1) e) ∘ fun p => (p.1, p.2.nd)) = M.filterMap fun p => C7 (p.2.nd ++ p.2.gd) e := by
  intro M
  induction M with
  | nil => intro _; rfl
  | cons q M ih =>
   intro h
   simp only [List.filterMap_cons, Function.comp, Ym (n := n) hI (h q (by simp))]
   have := ih fun p hp => h p (List.mem_cons_of_mem _ hp)
   rw [<- this]
 exact this L fun p hp => hp
theorem Vl (hI : Eb L) (e : Int) : BU (bk n L) e = some (MT L e, Zo L e) := by
 have hh := Xy (n := n) hI e
 rw [Nu (bk n L) e (by have := hI.len; simp [bk]; omega) (fun a ha => ?_) (fun x hx y hy => ?_), hh]
 .rfl
 .obtain ⟨p, hp, rfl⟩ := List.mem_map.1 ha
  obtain ⟨-, s3, s4⟩ := hI.small p hp
  simp only [bk]
  rw [Hg (·.nd) hI.keys hp, Hg (·.gd) hI.keys hp]
  simp only [Option.getD_some]; omega
 rw [hh] at hx hy
 obtain ⟨p, hp, h1⟩ := List.mem_filterMap.1 hx
 obtain ⟨q, hq, h2⟩ := List.mem_filterMap.1 hy
 obtain ⟨a, ha, a1, a2⟩ := NW h1
 obtain ⟨b, hb, b1, b2⟩ := NW h2
 rw [<- a2, <- b2]
 exact hI.agree p hp q hq a ha b hb (a1.trans b1.symm)
theorem Xz (hI : Eb L) {p : Int × Dq} (hp : p ∈ L) {x : AM} (hx : x ∈ p.2.nd ++ p.2.gd) : MT L x.elem = x.pos := by
 unfold MT
 cases hl : L.filterMap fun p => C7 (p.2.nd ++ p.2.gd) x.elem with
 | nil =>
  cases hf : C7 (p.2.nd ++ p.2.gd) x.elem with
  | none => exact absurd rfl (Vk hf x hx)
  | some v =>
   have : v ∈ L.filterMap fun p => C7 (p.2.nd ++ p.2.gd) x.elem := List.mem_filterMap.2 ⟨p, hp, hf⟩
   rw [hl] at this; cases this
 | cons v l =>
  have : v ∈ L.filterMap fun p => C7 (p.2.nd ++ p.2.gd) x.elem := by rw [hl]; simp
  obtain ⟨q, hq, h1⟩ := List.mem_filterMap.1 this
  obtain ⟨a, ha, a1, a2⟩ := NW h1
  simp only [List.headD_cons]
  rw [<- a2]
  exact hI.agree q hq p hp a ha x hx a1
theorem Vm (hI : Eb L) (hl : L.length < 1000) (o : Int) (ho : 0 <= o) (r : AT) (hr : Se r) :
  ∃ v, BW (bk n L) o r = some v /\ A9 (bk n L) o r = some (bk n (if v = 0 then L ++ [(o, I7 r)] else L), v) /\ (v = 0 -> Eb (L ++ [(o, I7 r)]) /\ o ∉ L.map (·.1) /\ D5 n r) := by
 obtain ⟨t, ht, hR⟩ := TD (bk n L) r hr
 have arg : BW (bk n L) o r = some 1 -> ∃ v, BW (bk n L) o r = some v /\ A9 (bk n L) o r = some (bk n (if v = 0 then L ++ [(o, I7 r)] else L), v) /\ (v = 0 -> Eb (L ++ [(o, I7 r)]) /\ o ∉ L.map (·.1) /\ D5 n r) := fun h =>
  ⟨1, h, by rw [if_neg (by decide)]; exact Tm _ _ _ h (by decide), fun h => absurd h (by decide)⟩
 by_cases hm : o ∈ L.map (·.1)
 .refine arg ?_
  unfold BW
  simp only [decide_eq_false (show ¬ o < 0 by omega), cond_false, Pm hI, decide_eq_true hm, Option.bind_some, cond_true]
 cases t with
 | false =>
  refine arg ?_
  unfold BW
  simp only [decide_eq_false (show ¬ o < 0 by omega), cond_false, Pm hI, decide_eq_false hm, Option.bind_some, ht, Bool.not_false, cond_true]
 | true =>
  have hP : D5 n r := hR rfl
  have hmay := Sd (bk n L) o r hP ho (by rw [Pm hI, decide_eq_false hm]) (Tn hI) (To hI) (fun e => ⟨_, Vl hI e⟩)
  refine ⟨_, hmay, ?_, fun h0 => ?_⟩
  .by_cases h0 : Jh (NZ L) (Na L) (MT L) r = 0
   .rw [if_pos h0]
    rw [h0] at hmay ⊢
    rw [Oa (bk n L) o r hP hmay]
    simp only [bk, MS (·.st) _ hm, MS (·.zn) _ hm, MS (·.nd) _ hm, MS (·.gd) _ hm, List.map_append, List.map_cons, List.map_nil, I7]
   rw [if_neg h0]
   exact Tm _ _ _ hmay h0
  have noS : ∀ s ∈ r.steps, ¬ (0 <= NZ L s.elem) /\ ¬ (0 < (Na L s.elem).length) := fun s hs => by
   unfold Jh at h0
   split at h0
   .exact absurd h0 (by decide)
   rename_i hc
   have : ¬ ((decide (0 <= NZ L s.elem) || decide (0 < ((Na L s.elem).length : Int))) = true) := fun h => hc (List.any_eq_true.2 ⟨s, hs, h⟩)
   simp only [Bool.or_eq_true, decide_eq_true_eq, not_or] at this
   exact ⟨this.1, by omega⟩
  have noZ : ∀ e ∈ r.zone, ¬ (0 <= NZ L e) := fun e he => by
   unfold Jh at h0
   split at h0
   .exact absurd h0 (by decide)
   split at h0
   .exact absurd h0 (by decide)
   rename_i hc
   exact fun h => hc (List.any_eq_true.2 ⟨e, he, by simpa using h⟩)
  have noP : ∀ x ∈ r.needs ++ r.guards, MT L x.elem = 0 \/ MT L x.elem = x.pos := fun x hx => by
   unfold Jh at h0
   split at h0
   .exact absurd h0 (by decide)
   split at h0
   .exact absurd h0 (by decide)
   split at h0
   .exact absurd h0 (by decide)
   split at h0
   .exact absurd h0 (by decide)
   rename_i c1 c2
   have : ¬ (((MT L x.elem != 0) && (MT L x.elem != x.pos)) = true) := fun h => by
    rcases List.mem_append.1 hx with hx | hx
    .exact c1 (List.any_eq_true.2 ⟨x, hx, h⟩)
    exact c2 (List.any_eq_true.2 ⟨x, hx, h⟩)
   simp only [Bool.and_eq_true, bne_iff_ne, not_and, Decidable.not_not] at this
   by_cases hz : MT L x.elem = 0
   .exact .inl hz
   exact .inr (this hz)
  have cross : ∀ p ∈ L, ∀ x ∈ p.2.nd ++ p.2.gd, ∀ y ∈ r.needs ++ r.guards, x.elem = y.elem -> x.pos = y.pos := fun p hp x hx y hy he => by
   have h1 := Xz hI hp hx
   have h2 := hI.posn p hp x hx
   have h3 := noP y hy
   rw [<- he, h1] at h3
   omega
  have m : ∀ p, p ∈ L ++ [(o, I7 r)] ↔ p ∈ L \/ p = (o, I7 r) := fun p => by rw [List.mem_append, List.mem_singleton]
  refine ⟨⟨?_, fun p hp => ?_, by rw [List.length_append]; simp; omega, fun p hp => ?_, fun p hp => ?_, fun p hp q hq e h1 h2 => ?_, fun p hp q hq e h1 h2 => ?_, fun p hp q hq x hx y hy he => ?_, fun p hp x hx => ?_⟩, hm, hP⟩
  .rw [List.map_append, List.nodup_append]
   exact ⟨hI.keys, by simp, fun a ha b hb e => by simp at hb; subst hb; subst e; exact hm ha⟩
  .rcases (m p).1 hp with hp | rfl
   .exact hI.pos p hp
   exact ho
  .rcases (m p).1 hp with hp | rfl
   .exact hI.small p hp
   exact ⟨⟨by simp [I7]; exact hr.ls, hr.lz⟩, hr.ln, hr.lg⟩
  .rcases (m p).1 hp with hp | rfl
   .exact hI.holds p hp
   have := hP.one; simp [I7]; omega
  .rcases (m p).1 hp with hp | rfl
   .rcases (m q).1 hq with hq | rfl
    .exact hI.apart p hp q hq e h1 h2
    obtain ⟨s, hs, rfl⟩ := List.mem_map.1 h2
    exact absurd ((QK hI _).2 ⟨p, hp, h1⟩) (noS s hs).1
   rcases (m q).1 hq with hq | rfl
   .obtain ⟨s, hs, rfl⟩ := List.mem_map.1 h1
    exact absurd ((QK hI _).2 ⟨q, hq, h2⟩) (noS s hs).1
   rfl
  .rcases (m p).1 hp with hp | rfl
   .rcases (m q).1 hq with hq | rfl
    .exact hI.zone p hp q hq e h1 h2
    exact noZ e h2 ((QK hI _).2 ⟨p, hp, h1⟩)
   obtain ⟨s, hs, rfl⟩ := List.mem_map.1 h1
   rcases (m q).1 hq with hq | rfl
   .exact (noS s hs).2 ((Xx _).2 ⟨q, hq, h2⟩)
   exact (hP.zone _ h2).2.2 h1
  .rcases (m p).1 hp with hp | rfl
   .rcases (m q).1 hq with hq | rfl
    .exact hI.agree p hp q hq x hx y hy he
    exact cross p hp x hx y hy he
   rcases (m q).1 hq with hq | rfl
   .exact (cross q hq y hy x hx he.symm).symm
   exact hP.cons x hx y hy he
  rcases (m p).1 hp with hp | rfl
  .exact hI.posn p hp x hx
  exact (hP.need x hx).2
end Go.E
/- Plain Lean: Drop and Owners on a row of owners; what is taken and dropped leaves no trace. No condition. -/
namespace Go.E
open Go
variable {n : Int} {L : List (Int × Dq)}
theorem Uk {o : Int} : ∀ {L : List (Int × Dq)}, o ∉ L.map (·.1) -> L.filter (fun p => !(decide (p.1 = o))) = L := fun ho => List.filter_eq_self.2 fun p hp => by
 have : ¬ p.1 = o := fun e => ho (e ▸ List.mem_map_of_mem hp)
 simp [this]
theorem Vn {α : Type} (f : Dq -> α) (o : Int) : ∀ L : List (Int × Dq), (L.map (·.1)).Nodup -> Dz o (L.map fun p => (p.1, f p.2)) = (L.filter fun p => !(decide (p.1 = o))).map fun p => (p.1, f p.2)
 | [], _ => rfl
 | q :: L, hk => by
  simp only [List.map_cons, List.nodup_cons] at hk
  have ih := Vn f o L hk.2
  simp only [List.map_cons, Dz]
  by_cases h : o = q.1
  .rw [if_pos (by simpa using h), List.filter_cons_of_neg (by simp [h])]
   rw [Uk (h ▸ hk.1)]
  have h' : ¬ q.1 = o := fun e => h e.symm
  rw [if_neg (by simpa using h), List.filter_cons_of_pos (by simp [h']), ih]
  rfl
theorem Yn (hI : Eb L) (o : Int) : Bw (bk n L) o = some (bk n (L.filter fun p => !(decide (p.1 = o))), decide (o ∈ L.map (·.1))) := by
 unfold Bw
 have hh : Bf ⟨(bk n L).elems, (bk n L).steps, (bk n L).zone, (bk n L).needs, (bk n L).guards⟩ o = some (decide (o ∈ L.map (·.1))) := Pm (n := n) hI o
 rw [hh]
 simp only [Option.bind_some]
 by_cases ho : o ∈ L.map (·.1)
 .rw [decide_eq_true ho]
  simp only [Bool.not_true, cond_false, bk, Vn _ _ _ hI.keys]
 rw [decide_eq_false ho]
 have : L.filter (fun p => !(decide (p.1 = o))) = L := List.filter_eq_self.2 fun p hp => by
  have : ¬ p.1 = o := fun e => ho (e ▸ List.mem_map_of_mem hp)
  simp [this]
 rw [this]
 rfl
theorem Eb.drop (hI : Eb L) (o : Int) : Eb (L.filter fun p => !(decide (p.1 = o))) := by
 have m : ∀ p ∈ L.filter (fun p => !(decide (p.1 = o))), p ∈ L := fun p hp => (List.mem_filter.1 hp).1
 refine ⟨?_, fun p hp => hI.pos p (m p hp), Nat.le_trans (List.length_filter_le _ _) hI.len, fun p hp => hI.small p (m p hp), fun p hp => hI.holds p (m p hp), fun p hp q hq => hI.apart p (m p hp) q (m q hq), fun p hp q hq => hI.zone p (m p hp) q (m q hq), fun p hp q hq => hI.agree p (m p hp) q (m q hq), fun p hp => hI.posn p (m p hp)⟩
 exact List.Sublist.nodup (List.Sublist.map _ List.filter_sublist) hI.keys
theorem Vo (o : Int) (b : Dq) (ho : o ∉ L.map (·.1)) : (L ++ [(o, b)]).filter (fun p => !(decide (p.1 = o))) = L := by
 rw [List.filter_append]
 have e1 : L.filter (fun p => !(decide (p.1 = o))) = L := List.filter_eq_self.2 fun p hp => by
  have : ¬ p.1 = o := fun e => ho (e ▸ List.mem_map_of_mem hp)
  simp [this]
 rw [e1]
 simp
theorem Wt (hI : Eb L) : Bi (bk n L) = some (FR (L.map (·.1))) := by
 have hl := hI.len
 rw [Qg (bk n L) (by simp [bk]; omega)]
 refine congrArg some ?_
 unfold XI
 have h1 : (bk n L).steps.filter (fun p => K6 (bk n L) p.1) = (bk n L).steps := List.filter_eq_self.2 fun a ha => by
  have h2 : Bf (bk n L) a.1 = some (K6 (bk n L) a.1) := rfl
  rw [Pm hI] at h2
  obtain ⟨p, hp, rfl⟩ := List.mem_map.1 ha
  have : (p.1 : Int) ∈ L.map (·.1) := List.mem_map_of_mem hp
  rw [decide_eq_true this] at h2
  exact (Option.some.inj h2).symm
 rw [h1]
 simp only [bk, List.map_map]
 rfl
theorem Yo (hI : Eb L) (hl : L.length < 1000) (o : Int) (ho : 0 <= o) (r : AT) (hr : Se r) :
  ∃ L' v, Eb L' /\ A9 (bk n L) o r = some (bk n L', v) /\ (v = 0 -> Bw (bk n L') o = some (bk n L, true)) /\ (v ≠ 0 -> L' = L) /\ L'.length <= L.length + 1 := by
 obtain ⟨v, h1, h2, h3⟩ := Vm (n := n) hI hl o ho r hr
 by_cases c : v = 0
 .obtain ⟨i1, i2, -⟩ := h3 c
  rw [if_pos c] at h2
  refine ⟨_, v, i1, h2, fun _ => ?_, fun h => absurd c h, by rw [List.length_append]; exact Nat.le_refl _⟩
  rw [Yn i1, Vo o _ i2]
  refine congrArg some (congrArg _ (decide_eq_true ?_))
  simp
 rw [if_neg c] at h2
 exact ⟨L, v, hI, h2, fun h => absurd h c, fun _ => rfl, by omega⟩
end Go.E
/- Plain Lean: what is taken and dropped leaves no trace (LockBack). No condition. -/
namespace Go.E
open Go
theorem Wu {p : AH} {n : CK} (hv : CR p) (hn : Ct p n) {r : AT} (hr : r ∈ (DG p).1) : Se (Ej n r) := by
 obtain ⟨s, hs⟩ := SV hr
 have hl := JV hs
 have hnd : r.needs.length <= 12 := (Ga hs).2.2.2.2.2.2.2.2
 have hf := (Nz hv hn hl (show r.needs.length <= 1000 by omega)).2
 have hz := hf.zone.len
 have hlg := hf.lg
 exact ⟨by rw [hf.steps]; omega, by rw [hf.needs]; omega, by omega, by omega⟩
theorem Q7 (hk : Fp = some true) (p : AH) (ws : List Int) (i : Int) (kw : ∀ v ∈ ws, (Lit.int .u8 v).wf = true) (ki : (Lit.int .u8 i).wf = true) : Gi p ws i = some true := by
 unfold Gi
 simp only [hk, Option.bind_some, Bool.not_true, cond_false]
 obtain ⟨l, e, h1, h2⟩ := Ws p
 simp only [h1, Option.bind_some]
 cases e with
 | false => rfl
 | true =>
  obtain ⟨hv, n, hn, hlen, rfl⟩ := h2 rfl
  have hne := hv.ne
  simp only [Bool.not_true, cond_false, Option.bind_some, List.length_map]
  by_cases c1 : (DG p).1.length = 0
  .simp [c1]
  have c1' : (((DG p).1.length : Int) == 0) = false := by simp only [beq_eq_false_iff_ne]; omega
  by_cases c2 : (30 : Int) < (ws.length : Int)
  .simp [c1', c2]
  simp only [c1', cond_false, decide_eq_false c2, Option.bind_some, ZP hne]
  have pick : ∀ v, (Lit.int .u8 v).wf = true -> ∃ (j : Nat) (r : AT), OQ (Ab v) ((DG p).1.length : Int) = some (j : Int) /\ ((DG p).1.map (Ej n))[j]? = some r /\ Se r := fun v hw => by
   obtain ⟨u1, u2, u3⟩ := Zs hw
   obtain ⟨j, j1, j2⟩ := Wm (k := (DG p).1.length) u1 (by omega)
   obtain ⟨r, hr⟩ : ∃ r, (DG p).1[j]? = some r := ⟨_, List.getElem?_eq_getElem j1⟩
   exact ⟨j, Ej n r, by rw [u3, j2], by rw [List.getElem?_map, hr]; rfl, Wu hv hn (List.mem_of_getElem? hr)⟩
  obtain ⟨t, ht, rfl⟩ : ∃ t, AQ (Dk p ws i ((DG p).1.map (Ej n), true)) (0, (p.elems.length : Int), (p.elems.length : Int), [], [], [], [], [], [], [], []) = some t /\ t = true := by
   refine EG (fun k s => k <= ws.length /\ ∃ L, Eb L /\ L.length <= k /\ s = ((k : Int), (p.elems.length : Int), (p.elems.length : Int), (bk (p.elems.length : Int) L).steps, (bk (p.elems.length : Int) L).zone, (bk (p.elems.length : Int) L).needs, (bk (p.elems.length : Int) L).guards, (bk (p.elems.length : Int) L).steps, (bk (p.elems.length : Int) L).zone, (bk (p.elems.length : Int) L).needs, (bk (p.elems.length : Int) L).guards)) ws.length ?_
    ⟨Nat.zero_le _, [], ⟨by simp, by simp, by simp, by simp, by simp, by simp, by simp, by simp, by simp⟩, Nat.zero_le _, rfl⟩
   rintro k s ⟨hkl, L, hI, hL, rfl⟩
   by_cases he : k = ws.length
   .subst he
    left
    obtain ⟨j, r, j1, j2, j3⟩ := pick i ki
    obtain ⟨L', v, b1, b2, b3, b4, b5⟩ := Yo (n := (p.elems.length : Int)) hI (by omega) (j : Int) (by omega) r j3
    have b2' : A9 ⟨(p.elems.length : Int), (bk (p.elems.length : Int) L).steps, (bk (p.elems.length : Int) L).zone, (bk (p.elems.length : Int) L).needs, (bk (p.elems.length : Int) L).guards⟩ (j : Int) r = _ := b2
    have own : Bi ⟨(p.elems.length : Int), (bk (p.elems.length : Int) L).steps, (bk (p.elems.length : Int) L).zone, (bk (p.elems.length : Int) L).needs, (bk (p.elems.length : Int) L).guards⟩ = _ := Wt (n := (p.elems.length : Int)) hI
    have l2 : AQ (Dj p ((ws.length : Int), (p.elems.length : Int), (p.elems.length : Int), (bk (p.elems.length : Int) L).steps, (bk (p.elems.length : Int) L).zone, (bk (p.elems.length : Int) L).needs, (bk (p.elems.length : Int) L).guards, (bk (p.elems.length : Int) L).steps, (bk (p.elems.length : Int) L).zone, (bk (p.elems.length : Int) L).needs, (bk (p.elems.length : Int) L).guards) (false, (p.elems.length : Int), (bk (p.elems.length : Int) L).steps, (bk (p.elems.length : Int) L).zone, (bk (p.elems.length : Int) L).needs, (bk (p.elems.length : Int) L).guards)) 0 = some true := by
     refine Tl (l := p.elems) (by simp only [Dj, CF, cond_false]) (fun q a hq => ?_)
     have := Bh hq
     have w1 : BU ⟨(p.elems.length : Int), (bk (p.elems.length : Int) L).steps, (bk (p.elems.length : Int) L).zone, (bk (p.elems.length : Int) L).needs, (bk (p.elems.length : Int) L).guards⟩ (q : Int) = _ := Vl (n := (p.elems.length : Int)) hI q
     have w2 : BK ⟨(p.elems.length : Int), (bk (p.elems.length : Int) L).steps, (bk (p.elems.length : Int) L).zone, (bk (p.elems.length : Int) L).needs, (bk (p.elems.length : Int) L).guards⟩ (q : Int) = _ := Tn (n := (p.elems.length : Int)) hI q
     have w3 : Bq ⟨(p.elems.length : Int), (bk (p.elems.length : Int) L).steps, (bk (p.elems.length : Int) L).zone, (bk (p.elems.length : Int) L).needs, (bk (p.elems.length : Int) L).guards⟩ (q : Int) = _ := To (n := (p.elems.length : Int)) hI q
     have hz : (Na L (q : Int)).length < 1000000 := by
      unfold Na QJ
      rw [(ES _).length_eq, List.length_map]
      have h3 := List.length_filter_le (fun p : Int × List Int => decide ((q : Int) ∈ p.2)) (L.map fun p => (p.1, p.2.zn))
      rw [List.length_map] at h3
      have := hI.len
      omega
     simp only [Dj, Bl hq, cond_true, w1, w2, w3, Option.bind_some, bne_self_eq_false, cond_false, QD _ _ hz, decide_true, Bool.not_true, AX (show q < 1000000000 by omega)]
    have hol : (FR (L.map (·.1))).length < 1000000 := by
     rw [(ES _).length_eq, List.length_map]; have := hI.len; omega
    refine ⟨true, ?_, rfl⟩
    simp only [Dk, CF, cond_false, List.length_map, j1, Option.bind_some, Ai, j2, b2']
    by_cases hv0 : v = 0
    .have b3' : Bw ⟨(bk (p.elems.length : Int) L').elems, (bk (p.elems.length : Int) L').steps, (bk (p.elems.length : Int) L').zone, (bk (p.elems.length : Int) L').needs, (bk (p.elems.length : Int) L').guards⟩ (j : Int) = _ := b3 hv0
     subst hv0
     simp only [beq_self_eq_true, cond_true, b3', Option.bind_some, Bool.not_true, cond_false]
     have own' : Bi ⟨(bk (p.elems.length : Int) L).elems, (bk (p.elems.length : Int) L).steps, (bk (p.elems.length : Int) L).zone, (bk (p.elems.length : Int) L).needs, (bk (p.elems.length : Int) L).guards⟩ = _ := own
     simp only [own', own, Option.bind_some, QD _ _ hol, decide_true, Bool.not_true, cond_false]
     exact congrArg (Option.map Sum.inr) l2
    have := b4 hv0
    subst this
    have hv1 : (v == 0) = false := beq_eq_false_iff_ne.2 hv0
    have own' : Bi ⟨(bk (p.elems.length : Int) L').elems, (bk (p.elems.length : Int) L').steps, (bk (p.elems.length : Int) L').zone, (bk (p.elems.length : Int) L').needs, (bk (p.elems.length : Int) L').guards⟩ = _ := own
    simp only [hv1, cond_false, Option.bind_some, own', own, QD _ _ hol, decide_true, Bool.not_true]
    exact congrArg (Option.map Sum.inr) l2
   have hlt : k < ws.length := by omega
   obtain ⟨v, hvk⟩ : ∃ v, ws[k]? = some v := ⟨_, List.getElem?_eq_getElem hlt⟩
   obtain ⟨j, r, j1, j2, j3⟩ := pick v (kw v (List.mem_of_getElem? hvk))
   obtain ⟨w, t1, t2, t3⟩ := Vm (n := (p.elems.length : Int)) hI (by omega) (j : Int) (by omega) r j3
   have t2' : A9 ⟨(p.elems.length : Int), (bk (p.elems.length : Int) L).steps, (bk (p.elems.length : Int) L).zone, (bk (p.elems.length : Int) L).needs, (bk (p.elems.length : Int) L).guards⟩ (j : Int) r = _ := t2
   refine .inr ⟨hlt, _, ?_, hlt, if w = 0 then L ++ [((j : Int), I7 r)] else L, ?_, ?_, rfl⟩
   .simp only [Dk, Bl hvk, cond_true, Ai, hvk, Option.bind_some, List.length_map, j1, j2, t2', AX (show k < 1000000000 by omega)]
    rfl
   .split
    .rename_i c; exact (t3 c).1
    exact hI
   split
   .rw [List.length_append]; simp; omega
   omega
  exact ht
end Go.E
/- The known answers of layer 14. No condition. -/
set_option maxRecDepth 100000
namespace Go.E
open Go Go.Proofs
theorem bs {α β : Type} {o : Option α} {a : α} {f : α -> Option β} {r : β} (h : o = some a) (k : f a = some r) : o.bind f = some r := by rw [h]; exact k
theorem bt {α : Type} {c : Bool} {a b : Option α} {r : α} (h : c = true) (k : a = some r) : (bif c then a else b) = some r := by rw [h]; exact k
theorem bF {α : Type} {c : Bool} {a b : Option α} {r : α} (h : c = false) (k : b = some r) : (bif c then a else b) = some r := by rw [h]; exact k
noncomputable def RP : AH := Hz.getD ⟨[], [], [], [], 0, 0, 0, 0, false⟩
noncomputable def LW : List AT := match Dt RP with
 | some c => c.1.roads
 | none => []
noncomputable def kR (i : Nat) : AT := LW.getD i ⟨0, 0, 0, [], [], [], [], [], false⟩
noncomputable def PU : AW := C6 6 1 (kR 1)
noncomputable def VJ : AW := ⟨6, Au 0 ((kR 0).steps.map (·.elem)) PU.steps, Au 0 (kR 0).zone PU.zone, Au 0 (kR 0).needs PU.needs, Au 0 (kR 0).guards PU.guards⟩
noncomputable def Ta : AW := match D3 VJ 1 2 with
 | some b => b.1
 | none => VJ
noncomputable def PV : AW := match Bw Ta 0 with
 | some b => b.1
 | none => Ta
def VK (n : Int) (r : AT) : Bool := decide (1 <= r.steps.length) && decide (r.steps.length <= 1000) && decide (r.needs.length <= 1000) && decide (r.guards.length <= 1000) && decide (r.zone.length <= 1000) && decide (∀ s ∈ r.steps, 0 <= s.elem /\ s.elem < n) &&
 decide ((r.steps.map (·.elem)).Nodup) && decide (∀ e ∈ r.zone, 0 <= e /\ e < n /\ e ∉ r.steps.map (·.elem)) && decide (∀ x ∈ r.needs ++ r.guards, (0 <= x.elem /\ x.elem < n) /\ (x.pos = 1 \/ x.pos = 2)) && decide (∀ a ∈ r.needs ++ r.guards, ∀ b ∈ r.needs ++ r.guards, a.elem = b.elem -> a.pos = b.pos)
theorem OY {n : Int} {r : AT} (h : VK n r = true) : D5 n r := by
 simp only [VK, Bool.and_eq_true, decide_eq_true_eq] at h
 obtain ⟨⟨⟨⟨⟨⟨⟨⟨⟨h1, h2⟩, h3⟩, h4⟩, h5⟩, h6⟩, h7⟩, h8⟩, h9⟩, h10⟩ := h
 exact ⟨h1, h2, h3, h4, h5, h6, h7, h8, h9, h10⟩
def YQ (m : List (Int × List Int)) (e : Int) : Bool := decide (∀ p ∈ m, ∀ q ∈ m, e ∈ p.2 -> e ∈ q.2 -> p.1 = q.1) && decide (∀ p ∈ m, p.2.length < 1000000)
def XB (b : AW) (e : Int) : Bool := decide (b.needs.length < 1000000) && decide (∀ p ∈ b.needs, ((AV b.needs p.1).getD []).length < 100000 /\ ((AV b.guards p.1).getD []).length < 100000) && decide (∀ x ∈ CY b e b.needs, ∀ y ∈ CY b e b.needs, x = y)
theorem VL {b : AW} {e v : Int} (h : YQ b.steps e = true) (hv : OZ b.steps e = v) : BK b e = some v := by
 simp only [YQ, Bool.and_eq_true, decide_eq_true_eq] at h
 rw [MC b e h.1 h.2, hv]
theorem Tb {b : AW} {e : Int} {v : Int × Int} (h : XB b e = true) (hv : ((CY b e b.needs).headD 0, ((CY b e b.needs).length : Int)) = v) : BU b e = some v := by
 simp only [XB, Bool.and_eq_true, decide_eq_true_eq] at h
 rw [Nu b e h.1.1 h.1.2 h.2, hv]
theorem Xh : Fp = some true := by
 have R0 : D5 6 (kR 0) := OY (by kernel_rfl)
 have R1 : D5 6 (kR 1) := OY (by kernel_rfl)
 have R4 : D5 6 (kR 4) := OY (by kernel_rfl)
 have c4 : SI (kR 1) (kR 4) = 14 := by kernel_rfl
 have c0 : SI (kR 1) (kR 0) = 0 := by kernel_rfl
 have t1 : A9 (Nv 6) 1 (kR 1) = some (PU, 0) := ZM 6 1 (kR 1) R1 (by decide)
 have m4 : BW PU 4 (kR 4) = some 14 := (YR 6 1 4 (kR 1) (kR 4) R1 R4 (by decide) (by decide) (by decide)).trans (congrArg some c4)
 have m0 : BW PU 0 (kR 0) = some 0 := (YR 6 1 0 (kR 1) (kR 0) R1 R0 (by decide) (by decide) (by decide)).trans (congrArg some c0)
 have t2 : A9 PU 0 (kR 0) = some (VJ, 0) := Oa PU 0 (kR 0) R0 m0
 have h2 : BU VJ 2 = some (1, 1) := Tb (by kernel_rfl) (by kernel_rfl)
 have f3 : D3 VJ 1 2 = some (Ta, true) := by kernel_rfl
 have h3 : BU Ta 2 = some (0, 0) := Tb (by kernel_rfl) (by kernel_rfl)
 have o3 : BK Ta 3 = some 1 := VL (by kernel_rfl) (by kernel_rfl)
 have d4 : Bw Ta 0 = some (PV, true) := by kernel_rfl
 have d5 : Bw PV 0 = some (PV, false) := by kernel_rfl
 have os : Bi PV = some [1] := by rw [Qg PV (of_decide_eq_true (by kernel_rfl))]; exact congrArg some (by kernel_rfl)
 have o4 : BK PV 1 = some (-1) := VL (by kernel_rfl) (by kernel_rfl)
 have z4 : Bq PV 1 = some [] := by rw [MD PV 1 (of_decide_eq_true (by kernel_rfl)) (of_decide_eq_true (by kernel_rfl))]; exact congrArg some (by kernel_rfl)
 have hp : Hz = some RP := by kernel_rfl
 have hb : Dt RP = some (⟨RP, LW⟩, 0) := by kernel_rfl
 have s6 : ((LW.length : Int) != 6) = false := by kernel_rfl
 have i1 : Aj LW 1 = some (kR 1) := by kernel_rfl
 have i4 : Aj LW 4 = some (kR 4) := by kernel_rfl
 have i0 : Aj LW 0 = some (kR 0) := by kernel_rfl
 have hs : Bf PV 1 = some true := by kernel_rfl
 have sm : DC [1] [1] = some true := by kernel_rfl
 unfold Fp
 refine bs hp <| bs hb <| bs rfl <| bs (a := false) (bF rfl (congrArg some s6)) <| bF rfl <| bs i1 <| bs t1 <| bs i4 <| bs m4 <| bs i0 <| bs t2 <| bs h2 <| bs f3 <| bs h3 <| bs o3 <| bs d4 <| ?_
 refine bs (a := true) ?_ rfl
 refine bt rfl <| bt rfl <| bt rfl <| bt rfl <| bt rfl <| bt rfl <| bt rfl <| bt rfl <| bt rfl <| bt rfl <| bs d5 <| bt rfl <| bs os <| bs sm <| bt rfl <| bs hs <| bt rfl <| bs o4 <| bt rfl <| bs z4 rfl
end Go.E
