/- Plain Lean: what is wrong with a timetable on a plan: the program beside the document. No condition. -/
import Derived.KernelRfl
import Derived.Test.YtlmjaeojocjhkaaGreatJ5
set_option linter.unusedVariables false
set_option linter.unusedSimpArgs false
namespace Go.E
open Go
def Kf (p : AK) (x : Co) : Bool := if x.fin = 1 then CB x.to 0 ((p.signals.length : Int) - 1) else if x.fin = 2 then Ak p x.to == 4 else if x.fin = 3 then Ak p x.to == 1 else false
theorem Rs (p : AK) (hp : p.elems.length <= 1000) (e : Int) : EL p e = some (Ak p e) := by
 unfold EL Ak
 rw [GU, Be (by omega) (by omega)]
 unfold CB
 by_cases h1 : 0 <= e
 .by_cases h2 : e <= (p.elems.length : Int) - 1
  .obtain ⟨a, ha⟩ := Fj (l := p.elems) (n := e) h1 (by omega)
   simp [h1, h2, ha]
  simp [h1, h2, CN (.inr (show (p.elems.length : Int) <= e by omega))]
 simp [h1, CN (.inl (show e < 0 by omega))]
theorem Qn (p : AK) (hf : DR p) (x : Co) : Er p x = some (Kf p x) := by
 have h1 := hf.elems; have h2 := hf.signals
 unfold Er Kf
 simp only [Cw, GU, Rs p (by omega), Option.bind_some, Be (n := (p.signals.length : Int) - 1) (by omega) (by omega)]
 split
 .rfl
 split
 .rfl
 split <;> rfl
def Gz (p : AK) : Int -> List Co -> Bool
 | _, [] => true
 | c, x :: l => (CB x.at_ c 2000 && Kf p x) && Gz p x.at_ l
theorem YY (p : AK) (hf : DR p) (r : CY) (hl : r.legs.length <= 1000) : AQ (DN p r) (0, 0) = some (Gz p 0 r.legs) := by
 have key := En (step := DN p r) (Post := fun b => b = Gz p 0 r.legs) (fun k s => s.2 = (k : Int) /\ k <= r.legs.length /\ 0 <= s.1 /\ Gz p 0 r.legs = Gz p s.1 (r.legs.drop k)) r.legs.length (s := (0, 0)) (by
  rintro k ⟨c, s2⟩ ⟨e, hk, hc, hL⟩
  simp only at e hc hL
  subst e
  by_cases he : k = r.legs.length
  .subst he
   left
   refine ⟨true, by simp only [DN, Bs, cond_false], ?_⟩
   rw [hL, List.drop_length]; rfl
  have hk' : k < r.legs.length := by omega
  have ha : r.legs[k]? = some r.legs[k] := List.getElem?_eq_getElem hk'
  have hd : r.legs.drop k = r.legs[k] :: r.legs.drop (k + 1) := List.drop_eq_getElem_cons hk'
  generalize r.legs[k] = x at ha hd
  simp only [DN, BS ha, cond_true, Ai, ha, Option.bind_some, GU, Qn p hf, AW (show k < 1000000000 by omega)]
  have hs : ∀ r, Gz p c (x :: r) = ((CB x.at_ c 2000 && Kf p x) && Gz p x.at_ r) := fun _ => rfl
  rw [hd, hs] at hL
  have hr : CB x.at_ c 2000 = (CB x.at_ 0 2000 && !decide (x.at_ < c)) := by
   unfold CB
   by_cases q1 : c <= x.at_
   .simp [q1, show ¬ x.at_ < c by omega, show 0 <= x.at_ by omega]
   simp [q1, show x.at_ < c by omega]
  rw [hr] at hL
  cases h1 : CB x.at_ 0 2000 with
  | false => left; rw [h1] at hL; exact ⟨false, by simp, by rw [hL]; rfl⟩
  | true =>
   cases h2 : decide (x.at_ < c) with
   | true => left; rw [h1, h2] at hL; exact ⟨false, by simp, by rw [hL]; rfl⟩
   | false =>
    cases h3 : Kf p x with
    | false => left; rw [h1, h2, h3] at hL; exact ⟨false, by simp, by rw [hL]; rfl⟩
    | true =>
     right
     rw [h1, h2, h3] at hL
     refine ⟨hk', (x.at_, ((k + 1 : Nat) : Int)), by simp, rfl, by omega, ?_, by rw [hL]; rfl⟩
     unfold CB at h1
     simp only [Bool.and_eq_true, decide_eq_true_eq] at h1
     exact h1.1) ⟨rfl, Nat.zero_le _, Int.le_refl _, rfl⟩
 obtain ⟨b, hb, rfl⟩ := key
 exact hb
theorem ZZ (p : AK) (hf : DR p) (l : List Co) (hl : l.length <= 1000) : JG p l = some (Gz p 0 l) := by
 have q := hf.signals
 unfold JG
 have key := DE l (fun i (c : Int) => (c, (i : Int))) (fun i c r => some (Gz p c r)) (step := GN p l) (fun c => ?_) (fun i c a r ha hi => ?_) 0
 .exact key
 .simp only [GN, Bs, cond_false]; rfl
 simp only [GN, BS ha, cond_true, Ai, ha, Option.bind_some, Mk, PU, Cw, HV, Gz, Kf, Be (n := (p.signals.length : Int) - 1) (by omega) (by omega)]
 cases h1 : CB a.at_ c 2000 with
 | false => left; simp [D9]
 | true =>
  have w : AN ((i : Int) + 1) = ((i + 1 : Nat) : Int) := AW (by omega)
  by_cases f1 : a.fin = 1
  .simp only [if_pos f1]
   cases h2 : CB a.to 0 ((p.signals.length : Int) - 1) with
   | false => left; simp [D9]
   | true => right; exact ⟨a.at_, by simp [D9, w], by simp⟩
  simp only [if_neg f1]
  by_cases f2 : a.fin = 2
  .simp only [if_pos f2]
   by_cases k : Ak p a.to = 4
   .right; exact ⟨a.at_, by simp [D9, w, k], by simp [k]⟩
   left; simp [D9, k]
  simp only [if_neg f2]
  by_cases f3 : a.fin = 3
  .simp only [if_pos f3]
   by_cases k : Ak p a.to = 1
   .right; exact ⟨a.at_, by simp [D9, w, k], by simp [k]⟩
   left; simp [D9, k]
  left; simp [D9, f3]
noncomputable def Lw (p : AK) (d : Ag) (r : CY) : Bool := KB r.name && (CB r.stock 0 ((d.stock.length : Int) - 1) && (CB r.frm 0 ((p.signals.length : Int) - 1) && (CB r.left 0 4000 && Gz p 0 r.legs)))
theorem Sa (p : AK) (hf : DR p) {d : Ag} (hd : d.stock.length <= 1000) (r : CY) (hl : r.legs.length <= 1000) : GM p d r = some (Lw p d r) := by
 have q := hf.signals
 unfold GM Lw
 simp only [Ro, GU, Option.bind_some, YY p hf r hl, Be (n := (p.signals.length : Int) - 1) (by omega) (by omega), Be (n := (d.stock.length : Int) - 1) (by omega) (by omega)]
 cases KB r.name <;> cases CB r.stock 0 ((d.stock.length : Int) - 1) <;> cases CB r.frm 0 ((p.signals.length : Int) - 1) <;> cases CB r.left 0 4000 <;> rfl
def ML (r : CY) : Bool := decide (12 < (r.legs.length : Int))
noncomputable def Hb (p : AK) (d : Ag) : Int := if 8 < d.runs.length then 3 else if d.runs.any ML = true then 3 else if GV p d.stock = 0 then (if CB d.begin 0 86399 = true then (if d.runs.any (fun r => !Lw p d r) = true then 1 else if HZ JW [] d.runs = true then 4 else 0) else 1) else GV p d.stock
theorem Qo (p : AK) (hf : DR p) {d : Ag} (hd : Jo d) : Es p d = some (Hb p d) := by
 have d1 := hd.runs; have d2 := hd.stock
 unfold Es Hb
 by_cases c1 : 8 < d.runs.length
 .simp only [show (8 : Int) < (d.runs.length : Int) by omega, decide_true, cond_true, c1, if_true, Option.bind_some]
 simp only [show ¬ (8 : Int) < (d.runs.length : Int) by omega, decide_false, cond_false, c1, if_false]
 obtain ⟨t, h1, h2⟩ := PT (l := d.runs) ML (by omega) (step := Dg d) (by simp [Dg]) (fun i a ha => by
  have := BV ha
  simp only [Dg, FK, BS ha, cond_true, Ai, ha, Option.bind_some, ML, AW (show i < 1000000000 by omega)])
 rw [h1]
 simp only [Option.bind_some, h2]
 cases d.runs.any ML with
 | true => rfl
 | false =>
  simp only [cond_false, SZ, Option.bind_some, HV, Bool.false_eq_true, if_false]
  by_cases c2 : GV p d.stock = 0
  .rw [if_pos c2, if_pos c2]
   simp only [GU, Option.bind_some]
   cases CB d.begin 0 86399 with
   | false => rfl
   | true =>
    obtain ⟨t, h3, h4⟩ := PT (l := d.runs) (fun r => !Lw p d r) (by omega) (step := Dh p d) (by simp [Dh]) (fun i a ha => by
     have := BV ha
     have hal := (hd.legs i a ha).1
     simp only [Dh, FL, BS ha, cond_true, Ai, ha, Option.bind_some, Sa p hf (show d.stock.length <= 1000 by omega) a (by omega), AW (show i < 1000000000 by omega)])
    rw [h3]
    simp only [Bool.not_true, cond_false, Option.bind_some, h4, if_true]
    cases d.runs.any (fun r => !Lw p d r) with
    | true => rfl
    | false =>
     simp only [cond_false, Bool.false_eq_true, if_false]
     have := DE (γ := Unit) d.runs (fun k _ => (k : Int)) (fun i _ r => some (if HZ JW (d.runs.take i) r = true then (4 : Int) else 0)) (step := Dj d) (fun _ => by simp only [Dj, Bs, cond_false]; rfl) (fun i _ a r ha hi => by
      have hlen : (d.runs.take i).length = i := by rw [List.length_take]; omega
      obtain ⟨t, h5, h6⟩ := PT (l := d.runs.take i) (fun b => JW b a) (by omega) (step := Di a (d.runs.take i)) (by simp [Di]) (fun k b hb => by
       have := BV hb
       simp only [Di, FM, BS hb, cond_true, Ai, hb, Option.bind_some, JW, AW (show k < 1000000000 by omega)])
      simp only [Dj, BS ha, cond_true, Ai, ha, Option.bind_some, Uy (show i <= d.runs.length by omega), h5, h6, HZ, <- It ha]
      cases (d.runs.take i).any (fun b => JW b a) with
      | true => left; rfl
      | false => right; exact ⟨(), by simp [AW (show i < 1000000000 by omega)], by simp⟩) ()
     exact this
  rw [if_neg c2, if_neg c2]
theorem U1 (p : AK) (hf : DR p) {d : Ag} (hd : Jo d) : IJ p d = some (Hb p d) := by
 have d1 := hd.runs; have d2 := hd.stock; have q := hf.signals
 unfold IJ Hb
 by_cases c1 : 8 < d.runs.length
 .simp only [show (8 : Int) < (d.runs.length : Int) by omega, decide_true, cond_true, c1, if_true]
 simp only [show ¬ (8 : Int) < (d.runs.length : Int) by omega, decide_false, cond_false, c1, if_false]
 refine NQ (l := d.runs) ML 3 (some (if GV p d.stock = 0 then (if CB d.begin 0 86399 = true then (if d.runs.any (fun r => !Lw p d r) = true then 1 else if HZ JW [] d.runs = true then 4 else 0) else 1) else GV p d.stock)) ?_ (fun i a ha => by
  have := BV ha
  simp only [Hr, BS ha, cond_true, Ai, ha, Option.bind_some, ML, AW (show i < 1000000000 by omega)]) |>.trans ?_
 .simp only [Hr, Bs, cond_false, U0 p d.stock (fun i s hs => by have := hd.name i s hs; omega), Option.bind_some, HV, Mk]
  by_cases c2 : GV p d.stock = 0
  .rw [if_pos c2, if_pos c2]
   cases CB d.begin 0 86399 with
   | false => rfl
   | true =>
    simp only [Bool.not_true, cond_false, if_true]
    rw [NQ (l := d.runs) (fun r => !Lw p d r) 1 (some (if HZ JW [] d.runs = true then 4 else 0)) (by
     simp only [Hq, Bs, cond_false]
     have := DE (γ := Unit) d.runs (fun k _ => (k : Int)) (fun i _ r => some (if HZ JW (d.runs.take i) r = true then (4 : Int) else 0)) (step := EN d) (fun _ => by simp only [EN, Bs, cond_false]; rfl) (fun i _ a r ha hi => by
      have hlen : (d.runs.take i).length = i := by rw [List.length_take]; omega
      simp only [EN, BS ha, cond_true, Ai, ha, Option.bind_some, Uy (show i <= d.runs.length by omega)]
      rw [NQ (l := d.runs.take i) (fun b => JW b a) (.inr 4) (some (.inl ((i + 1 : Nat) : Int))) (by simp only [Hp, Bs, cond_false, AW (show i < 1000000000 by omega)]; rfl) (fun k b hb => by
       have := BV hb
       simp only [Hp, BS hb, cond_true, Ai, hb, Option.bind_some, JW, AW (show k < 1000000000 by omega)]
       rw [BEq.comm (a := a.name.toList)])]
      simp only [HZ, <- It ha]
      cases (d.runs.take i).any (fun b => JW b a) with
      | true => left; rfl
      | false => right; exact ⟨(), by simp, by simp⟩) ()
     rw [show AQ (EN d) 0 = _ from this]; rfl) (fun i a ha => by
     have := BV ha
     obtain ⟨hal, han⟩ := hd.legs i a ha
     simp only [Hq, BS ha, cond_true, Ai, ha, Option.bind_some, Uv a.name (show a.name.size <= 1000 by omega), Mk, ZZ p hf a.legs (by omega), Lw, AW (show i < 1000000000 by omega), Be (n := (p.signals.length : Int) - 1) (by omega) (by omega), Be (n := (d.stock.length : Int) - 1) (by omega) (by omega)]
     cases KB a.name <;> cases CB a.stock 0 ((d.stock.length : Int) - 1) <;> cases CB a.frm 0 ((p.signals.length : Int) - 1) <;> cases CB a.left 0 4000 <;> rfl)]
    split <;> rfl
  rw [if_neg c2, if_neg c2]
 split <;> rfl
structure U2 (p : AK) (d : Ag) : Prop where
 ix : LG d
 stock : ∀ s ∈ d.stock, HY s = true
 runs : d.runs.length <= 8
 legs : ∀ (i : Nat) r, d.runs[i]? = some r -> r.legs.length <= 12
 frm : ∀ (i : Nat) r, d.runs[i]? = some r -> 0 <= r.frm /\ r.frm < p.signals.length
 leads : ∀ (i : Nat) r, d.runs[i]? = some r -> ∀ x ∈ r.legs, Kf p x = true
theorem QS {p : AK} : ∀ {l : List Co} {c : Int}, Gz p c l = true -> ∀ x ∈ l, Kf p x = true
 | [], _, _, x, hx => by cases hx
 | y :: l, c, h, x, hx => by
  unfold Gz at h
  simp only [Bool.and_eq_true] at h
  rcases List.mem_cons.1 hx with rfl | hx
  .exact h.1.2
  exact QS h.2 x hx
theorem S9 {p : AK} {d : Ag} (h : Hb p d = 0) : U2 p d := by
 unfold Hb at h
 split at h
 .cases h
 rename_i c1
 split at h
 .cases h
 rename_i c2
 split at h
 .rename_i c3
  split at h
  .split at h
   .cases h
   rename_i c4
   have c4' : d.runs.any (fun r => !Lw p d r) = false := by simpa using c4
   have hb : ∀ r ∈ d.runs, Lw p d r = true := fun r hr => by simpa using List.any_eq_false.1 c4' r hr
   have hq : ∀ (i : Nat) r, d.runs[i]? = some r -> (0 <= r.stock /\ r.stock <= (d.stock.length : Int) - 1) /\ (0 <= r.frm /\ r.frm <= (p.signals.length : Int) - 1) /\ Gz p 0 r.legs = true := fun i r hr => by
    have := hb r (List.mem_of_getElem? hr)
    unfold Lw CB at this
    simp only [Bool.and_eq_true, decide_eq_true_eq] at this
    exact ⟨this.2.1, this.2.2.1, this.2.2.2.2⟩
   refine ⟨fun i r hr => by have := (hq i r hr).1; omega, YX c3, by omega, fun i r hr => ?_, fun i r hr => by have := (hq i r hr).2.1; omega, fun i r hr => QS (hq i r hr).2.2⟩
   have c2' : d.runs.any ML = false := by simpa using c2
   have := List.any_eq_false.1 c2' r (List.mem_of_getElem? hr)
   unfold ML at this
   simp only [decide_eq_true_eq] at this
   omega
  cases h
 rename_i c3; exact absurd h c3
end Go.E
/- Plain Lean: which timetables can be gone: the program beside the document. No condition. -/
namespace Go.E
open Go
section
variable {p : AK} {n : Aw}
theorem Vx (hn : Ba p n) (x : AI) : Gb n x = some (Ch p x) := by
 unfold Gb Ch
 by_cases h : 0 <= x.fin
 .simp only [h, decide_true, cond_true, Dz hn, Option.bind_some, Jn, Bool.true_and]
 simp only [h, decide_false, cond_false, Option.bind_some, Bool.false_and]
theorem Za (ha : MM p) (e : Int) : 0 <= Cu p e /\ Cu p e <= 4000 /\ (Ak p e = 4 -> Cu p e = 0) := by
 unfold Cu Ak
 cases hi : AY p.elems e with
 | none => simp
 | some a =>
  have h := ha.elem _ a (Lt hi).1
  simp only [Option.map_some, Option.getD_some]
  have h4 : a.kind = 4 -> a.length = 0 := h.gate
  by_cases k : a.kind = 4
  .have := h4 k; omega
  have := h.len k; omega
theorem AAZ (hn : Ba p n) (hv : Br p) (len : Int) (t : JC) : ∃ b e, FV n len t = some (b, e) /\ J7 p len t = some (b, e) /\ (e = 0 -> b.trail = [t.at_] /\ (Ak p t.at_.elem = 4 \/ Ak p t.at_.elem = 1)) := by
 obtain ⟨l1, l2, l3⟩ := Za hv.args t.at_.elem
 have href' : ((bif decide (t.at_.fin < 0) then some true else (Ep (Ak p t.at_.elem)).bind fun y => some (decide (y <= t.at_.fin)) : Option Bool)) = some (!Ch p t.at_) := by
  rw [JT]
  unfold Ch
  by_cases h1 : t.at_.fin < 0
  .simp [h1, show ¬ 0 <= t.at_.fin by omega]
  by_cases h2 : t.at_.fin < CA (Ak p t.at_.elem)
  .simp [h1, h2, show 0 <= t.at_.fin by omega, show ¬ CA (Ak p t.at_.elem) <= t.at_.fin by omega]
  simp [h1, h2, show 0 <= t.at_.fin by omega, show CA (Ak p t.at_.elem) <= t.at_.fin by omega]
 unfold FV J7
 simp only [Dz hn, PS hn, PU, NM, Option.bind_some, Vx hn, href', HV, Cw, MJ hn, XW hv]
 by_cases c1 : len < 1
 .exact ⟨⟨0, [], 0, 0, 0⟩, 1, by simp [c1], by simp [c1], by simp⟩
 by_cases c2 : 4000 < len
 .exact ⟨⟨0, [], 0, 0, 0⟩, 1, by simp [c1, c2], by simp [c1, c2], by simp⟩
 simp only [c1, c2, decide_false, cond_false]
 by_cases k4 : Ak p t.at_.elem = 4
 .simp only [if_pos k4, k4, show ¬ (4 : Int) = 1 by decide, if_false, Option.bind_some]
  cases hh : Ch p t.at_ with
  | false => exact ⟨⟨0, [], 0, 0, 0⟩, 1, by simp, by simp, by simp⟩
  | true =>
   simp only [Bool.not_true, cond_false]
   by_cases r : A8 p t.at_ < 0
   .exact ⟨⟨0, [], 0, 0, 0⟩, 7, by simp [r], by simp [r], by simp⟩
   simp only [r, decide_false, cond_false]
   rw [l3 k4]
   by_cases e : t.left = 0
   .refine ⟨⟨1, [t.at_], 0, 0, 0⟩, 0, ?_, ?_, by simp⟩
    .simp [e]
    simp [e]
   refine ⟨⟨0, [], 0, 0, 0⟩, 1, ?_, ?_, by simp⟩
   .simp [e]
   by_cases e1 : t.left < 0
   .simp [e1]
   simp [e1, show 0 < t.left by omega]
 by_cases k1 : Ak p t.at_.elem = 1
 .simp only [if_neg k4, k1, if_true, show ¬ (1 : Int) = 4 by decide, if_false, Option.bind_some]
  cases hh : Ch p t.at_ with
  | false => exact ⟨⟨0, [], 0, 0, 0⟩, 1, by simp, by simp, by simp⟩
  | true =>
   simp only [Bool.not_true, cond_false]
   by_cases r : A8 p t.at_ < 0
   .exact ⟨⟨0, [], 0, 0, 0⟩, 7, by simp [r], by simp [r], by simp⟩
   simp only [r, decide_false, cond_false]
   by_cases e1 : t.left < 0
   .exact ⟨⟨0, [], 0, 0, 0⟩, 1, by simp [e1], by simp [e1], by simp⟩
   by_cases e2 : Cu p t.at_.elem < t.left
   .exact ⟨⟨0, [], 0, 0, 0⟩, 1, by simp [e1, e2], by simp [e1, e2], by simp⟩
   simp only [e1, e2, decide_false, cond_false, Option.bind_some]
   rw [Be (n := t.left + len) (by omega) (by omega)]
   by_cases e3 : Cu p t.at_.elem < t.left + len
   .exact ⟨⟨0, [], 0, 0, 0⟩, 9, by simp [e3], by simp [e3], by simp⟩
   exact ⟨⟨2, [t.at_], t.left, 0, 0⟩, 0, by simp [e3], by simp [e3], fun _ => ⟨rfl, .inr trivial⟩⟩
 exact ⟨⟨0, [], 0, 0, 0⟩, 1, by simp [k4, k1], by simp [k4, k1], by simp⟩
def Xa (p : AK) (e : Int) : List Int := if Ak p e = 4 then [] else [e]
theorem ABO (hn : Ba p n) {b : F2} {h : AI} (ht : b.trail = [h]) : Gc n b = some (Xa p h.elem) := by
 obtain ⟨m, tr, x, y, z⟩ := b
 simp only at ht
 subst ht
 unfold Gc
 have i0 : AY [h] 0 = some h := rfl
 have w : AN (0 + 1) = 1 := by decide
 by_cases k : Ak p h.elem = 4
 .have e1 : Cp n ⟨m, [h], x, y, z⟩ (0, []) = some (.inl (1, [])) := by
   simp only [Cp, List.length_cons, List.length_nil, i0, Option.bind_some, Dz hn, k, w]; rfl
  rw [DD e1]
  refine Dr ?_
  simp only [Cp, List.length_cons, List.length_nil, Xa, if_pos k]; rfl
 have e1 : Cp n ⟨m, [h], x, y, z⟩ (0, []) = some (.inl (1, [h.elem])) := by
  have : (Ak p h.elem != 4) = true := bne_iff_ne.2 k
  simp only [Cp, List.length_cons, List.length_nil, i0, Option.bind_some, Dz hn, this, w]; rfl
 rw [DD e1]
 refine Dr ?_
 simp only [Cp, List.length_cons, List.length_nil, Xa, if_neg k]; rfl
def Hc (p : AK) (r : CY) : Int := ((FD p r.frm).getD ⟨0, 0⟩).elem
noncomputable def PV (p : AK) (d : Ag) (r : CY) : Int := (((AY d.stock r.stock).bind fun s => J7 p s.len (Ke p r)).map (·.2)).getD 0
theorem YZ (hn : Ba p n) (hv : Br p) {d : Ag} (hx : LG d) {i : Nat} {r : CY} (hr : d.runs[i]? = some r) : ∃ s b, AY d.stock r.stock = some s /\ FV n s.len (Ke p r) = some (b, PV p d r) /\ J7 p s.len (Ke p r) = some (b, PV p d r) /\
  (PV p d r = 0 -> Gc n b = some (if Ak p (Hc p r) = 1 then [Hc p r] else [])) := by
 obtain ⟨k1, k2⟩ := hx i r hr
 obtain ⟨s, hs⟩ := Fj (l := d.stock) (n := r.stock) k1 k2
 obtain ⟨b, e, h1, h2, h3⟩ := AAZ hn hv s.len (Ke p r)
 have he : PV p d r = e := by unfold PV; rw [hs]; simp only [Option.bind_some, h2]; rfl
 rw [he]
 refine ⟨s, b, hs, h1, h2, fun h0 => ?_⟩
 obtain ⟨g1, g2⟩ := h3 h0
 rw [ABO hn g1]
 have e1 : (Ke p r).at_.elem = Hc p r := rfl
 rw [e1] at g2 ⊢
 unfold Xa
 rcases g2 with g2 | g2
 .rw [if_pos g2, if_neg (by omega)]
 rw [if_neg (by omega), if_pos g2]
noncomputable def IT (p : AK) (d : Ag) : List CY -> Int
 | [] => 0
 | r :: l => if PV p d r = 0 then IT p d l else PV p d r
def N6 (p : AK) : List Int -> List CY -> Bool
 | _, [] => false
 | pre, r :: l => if Ak p (Hc p r) = 1 then decide (Hc p r ∈ pre) || N6 p (pre ++ [Hc p r]) l else N6 p pre l
def N7 (p : AK) : List (Int × Bool) -> List CY -> Bool
 | _, [] => false
 | m, r :: l => if Ak p (Hc p r) = 1 then (Ah m (Hc p r)).getD false || N7 p (A2 (Hc p r) true m) l else N7 p m l
theorem Qp : ∀ (l : List CY) (m : List (Int × Bool)) (pre : List Int), (∀ x, (Ah m x).getD false = decide (x ∈ pre)) -> N7 p m l = N6 p pre l
 | [], _, _, _ => rfl
 | r :: l, m, pre, h => by
  unfold N7 N6
  split
  .rw [h, Qp l (A2 (Hc p r) true m) (pre ++ [Hc p r]) fun x => ?_]
   rw [EH]
   by_cases e : x = Hc p r
   .simp [e]
   simp [e, h]
  exact Qp l m pre h
theorem Tf (hn : Ba p n) (hv : Br p) {d : Ag} (hd : Jo d) (hx : LG d) : HH n d = some (if IT p d d.runs = 0 then (if N6 p [] d.runs = true then 18 else 0) else IT p d d.runs) := by
 have d1 := hd.runs
 have key := DE d.runs (fun i (c : Int × List (Int × Bool)) => (c.1, (i : Int), c.2)) (fun i c r => some (if IT p d r = 0 then (if N7 p c.2 r = true then (18 : Int) else c.1) else IT p d r)) (step := Et n d) (fun c => ?_) (fun i c a r ha hi => ?_) (0, [])
 .unfold HH
  rw [<- Qp (p := p) d.runs [] [] (fun x => by simp [Ah])]
  exact key
 .simp only [Et, Bs, cond_false]; rfl
 obtain ⟨s, b, h1, h2, -, h4⟩ := YZ hn hv hx ha
 have w : AN ((i : Int) + 1) = ((i + 1 : Nat) : Int) := AW (by omega)
 have ht : Rl p d (i : Int) = (Ke p a, true) := by unfold Rl; rw [Ai, ha]
 simp only [Et, BS ha, cond_true, Ai, ha, Option.bind_some, Ut hn, ht, h1, h2, HV]
 by_cases e : PV p d a = 0
 .right
  rw [if_pos e, h4 e]
  simp only [Option.bind_some, IT, if_pos e, N7]
  by_cases k : Ak p (Hc p a) = 1
  .simp only [if_pos k]
   refine ⟨(if (Ah c.2 (Hc p a)).getD false = true then 18 else c.1, A2 (Hc p a) true c.2), ?_, ?_⟩
   .have i0 : AY [Hc p a] 0 = some (Hc p a) := rfl
    have e1 : Ds (c.1, (i : Int), c.2) [Hc p a] (c.1, 0, c.2) = some (.inl (if (Ah c.2 (Hc p a)).getD false = true then 18 else c.1, 1, A2 (Hc p a) true c.2)) := by
     simp only [Ds, List.length_cons, List.length_nil, i0, Option.bind_some, show AN (0 + 1) = 1 by decide]
     cases (Ah c.2 (Hc p a)).getD false <;> rfl
    rw [DD e1]
    refine Dr ?_
    simp only [Ds, List.length_cons, List.length_nil, w]; rfl
   split
   .cases (Ah c.2 (Hc p a)).getD false <;> cases N7 p (A2 (Hc p a) true c.2) r <;> rfl
   rfl
  simp only [if_neg k]
  refine ⟨c, ?_, rfl⟩
  refine Dr ?_
  simp only [Ds, List.length_nil, w]; rfl
 left
 rw [if_neg e]
 simp only [IT, if_neg e]; rfl
def Lx (p : AK) (l : List Al) (d : Ag) (i k : Nat) (_ : Co) : Bool := ((C6 p l d (i : Int) (k : Int)).length : Int) == 0
def Qq (p : AK) (l : List Al) (d : Ag) (i : Nat) (r : CY) : Bool := (((r.legs.length : Int) == 0) || (((r.legs.getLast?).map (·.fin)).getD 0 != 2)) || (CH (Lx p l d i) 0 r.legs).isSome
theorem Zb {l : List Co} (hl : l.length <= 1000) : ((bif ((l.length : Int) == 0) then some true else (AY l (AN ((l.length : Int) - 1))).bind fun y => some (y.fin != 2) : Option Bool)) = some (((l.length : Int) == 0) || (((l.getLast?).map (·.fin)).getD 0 != 2)) := by
 cases l with
 | nil => rfl
 | cons a t =>
  have h0 : (((a :: t).length : Int) == 0) = false := beq_eq_false_iff_ne.2 (by simp; omega)
  have hw : AN (((a :: t).length : Int) - 1) = ((t.length : Nat) : Int) := by
   simp only [List.length_cons] at hl ⊢
   rw [Be (by omega) (by omega)]; omega
  rw [h0, hw, Ai]
  have hg : (a :: t).getLast? = (a :: t)[t.length]? := by rw [List.getLast?_eq_getElem?]; simp
  rw [hg]
  cases hx : (a :: t)[t.length]? with
  | none => have := List.getElem?_eq_none_iff.1 hx; simp at this; omega
  | some x => rfl
theorem Rt (hn : Ba p n) (hv : Br p) {d : Ag} (hd : Jo d) (hx : LG d) {l : List Al} (hl : P1 l) : AQ (FX ⟨p, l⟩ d n) 0 = some (if (CH (Qq p l d) 0 d.runs).isSome = true then 10 else 0) := by
 have d1 := hd.runs
 rw [K7 (l := d.runs) (Qq p l d) (fun _ => (10 : Int)) (some 0) (by simp [FX]) (fun i a ha => by
  have hi := BV ha
  have hal := (hd.legs i a ha).1
  simp only [FX, BS ha, cond_true, Ai, ha, Option.bind_some, Zb (show a.legs.length <= 1000 by omega)]
  unfold Qq
  cases (((a.legs.length : Int) == 0) || (((a.legs.getLast?).map (·.fin)).getD 0 != 2)) with
  | true => rfl
  | false =>
   simp only [cond_false, Bool.false_or]
   rw [K7 (l := a.legs) (Lx p l d i) (fun _ => Sum.inr (10 : Int)) (some (.inl ((i + 1 : Nat) : Int))) (by simp only [Hl, Bs, cond_false, AW (show i < 1000000000 by omega)]; rfl) (fun k x hk => by
    have hk' := BV hk
    simp only [Hl, BS hk, cond_true, Lu hv hn hd hx hl, Option.bind_some, AW (show k < 1000000000 by omega)]
    show _ = if Lx p l d i k x = true then _ else _
    unfold Lx
    cases ((C6 p l d (i : Int) (k : Int)).length : Int) == 0 <;> rfl)]
   cases CH (Lx p l d i) 0 a.legs <;> rfl)]
 cases CH (Qq p l d) 0 d.runs <;> rfl
noncomputable def PW (p : AK) (l : List Al) (d : Ag) : Int := if p.signals.any (·.auto) = true then 7 else if Hb p d = 0 then (if IT p d d.runs = 0 then (if N6 p [] d.runs = true then 18 else if (CH (Qq p l d) 0 d.runs).isSome = true then 10 else 0) else IT p d d.runs) else Hb p d
theorem U3 (hv : Br p) (hN : Ca p = some (some n, 0)) (hn : Ba p n) {d : Ag} (hd : Jo d) {l : List Al} (hl : P1 l) : Gd ⟨p, l⟩ d = some (PW p l d) := by
 have q := hv.ns
 unfold Gd PW
 obtain ⟨t, h1, h2⟩ := PT (l := p.signals) (fun s => s.auto) (by omega) (step := FW ⟨p, l⟩) (by simp [FW]) (fun i a ha => by
  have := BV ha
  simp only [FW, Ia, BS ha, cond_true, Ai, ha, Option.bind_some, AW (show i < 1000000000 by omega)])
 rw [h1]
 simp only [Option.bind_some, h2]
 cases p.signals.any (fun s => s.auto) with
 | true => rfl
 | false =>
  simp only [cond_false, Qo p hv.few hd, Option.bind_some, HV, Bool.false_eq_true, if_false]
  by_cases c : Hb p d = 0
  .rw [if_pos c, if_pos c]
   have hx := (S9 c).ix
   simp only [hN, Option.bind_some, I4, if_true, Tf hn hv hd hx]
   by_cases e : IT p d d.runs = 0
   .rw [if_pos e, if_pos e]
    cases N6 p [] d.runs with
    | true => rfl
    | false =>
     simp only [Bool.false_eq_true, if_false, if_true]
     exact Rt hn hv hd hx hl
   rw [if_neg e, if_neg e, if_neg e]
  rw [if_neg c, if_neg c]
theorem Vy {l : List Al} {d : Ag} (h : PW p l d = 0) {i k : Nat} {r : CY} (hr : d.runs[i]? = some r) (hk : k < r.legs.length) : C6 p l d (i : Int) (k : Int) ≠ [] := by
 unfold PW at h
 split at h
 .cases h
 split at h
 .split at h
  .split at h
   .cases h
   split at h
   .cases h
   rename_i hb
   have hb' : CH (Qq p l d) 0 d.runs = none := by simpa using hb
   have := (IS d.runs 0).1 hb' i r hr
   unfold Qq at this
   simp only [Bool.or_eq_false_iff] at this
   have h2 : CH (Lx p l d i) 0 r.legs = none := by simpa using this.2
   have := (IS r.legs 0).1 (by simpa using h2) k r.legs[k] (List.getElem?_eq_getElem hk)
   unfold Lx at this
   intro e
   rw [show (0 + k) = k by omega, e] at this
   simp at this
  rename_i h1; exact absurd h h1
 rename_i h1; exact absurd h h1
end
end Go.E
/- Plain Lean: what a net says of lines. No condition. -/
namespace Go.E
open Go
def Xb (ls : List C2) (m : List (Int × Bl)) : Prop := ∀ e, (Ah m e = none /\ ∀ l ∈ ls, e ∉ l.elems) \/ ∃ a l, Ah m e = some a /\ AY ls a.a0 = some l /\ e ∈ l.elems
def U4 (p : AK) (n : Aw) : Prop := Xb p.lines n.line
theorem Xc (p y15 : AK) (hf : DR p) (s58 : Int × List (AI × AI)) (s140 : Int × List (AI × Int)) : ∃ a b, AQ (Cf p y15 s58 s140) (0, [], []) = some (some ⟨y15, s58.2, s140.2, a, b⟩, 0) /\ Xb p.lines a := by
 have q4 := hf.lines
 obtain ⟨r, hr, a, b, rfl, hL⟩ : ∃ r, AQ (Cf p y15 s58 s140) (0, [], []) = some r /\ ∃ a b, r = (some ⟨y15, s58.2, s140.2, a, b⟩, 0) /\ Xb p.lines a := by
  refine Bz (l := p.lines) (fun i c => ∀ e, (Ah c.1 e = none /\ ∀ l ∈ p.lines.take i, e ∉ l.elems) \/ ∃ a l, Ah c.1 e = some a /\ AY p.lines a.a0 = some l /\ e ∈ l.elems) (fun c hc => ⟨_, by simp only [Cf, Bs, cond_false], c.1, c.2, rfl, fun e => by
   have := hc e; rw [List.take_length] at this; exact this⟩) (fun i l c h hc => ?_) (c := (([], []) : List (Int × Bl) × List (Int × Int))) (fun e => .inl ⟨rfl, by simp⟩)
  have := BV h
  have hal := (hf.line i l h).1
  obtain ⟨t, ht⟩ : ∃ t : Int, ((bif decide (1 < (l.elems.length : Int)) then (AY l.elems 0).bind fun y1186 => ((bif (Ah s58.2 (⟨y1186, 0⟩ : AI)).isSome then (AY l.elems 1).bind fun y1195 => some ((((Ah s58.2 (⟨y1186, 0⟩ : AI)).getD (⟨0, 0⟩ : AI)).elem) == y1195) else some false : Option (Bool))).bind fun (t1192 : Bool) => bif t1192 then some 1 else some 0 else some 0 : Option (Int))) = some t := by
   match hl : l.elems with
   | [] => exact ⟨0, by simp⟩
   | [a] => exact ⟨0, by simp⟩
   | a :: b :: r =>
    have hd : decide (1 < ((a :: b :: r).length : Int)) = true := by simp; omega
    have i0 : AY (a :: b :: r) 0 = some a := rfl
    have i1 : AY (a :: b :: r) 1 = some b := rfl
    simp only [hd, cond_true, i0, i1, Option.bind_some]
    cases (Ah s58.2 (⟨a, 0⟩ : AI)).isSome with
    | false => exact ⟨0, rfl⟩
    | true =>
     simp only [cond_true, Option.bind_some]
     cases ((Ah s58.2 (⟨a, 0⟩ : AI)).getD (⟨0, 0⟩ : AI)).elem == b with
     | false => exact ⟨0, rfl⟩
     | true => exact ⟨1, rfl⟩
  refine .inr ?_
  simp only [Cf, BS h, cond_true, Ai, h, Option.bind_some, ht]
  obtain ⟨r, hr, c', rfl, hc'⟩ : ∃ r, AQ (Dn s58 ((i : Int), c) l) (t, 0, c.1, c.2) = some r /\ ∃ c' : List (Int × Bl) × List (Int × Int), r = .inl (((i + 1 : Nat) : Int), c') /\
    ∀ e, Ah c'.1 e = (if e ∈ l.elems then Ah c'.1 e else Ah c.1 e) /\ (e ∈ l.elems -> ∃ a, Ah c'.1 e = some a /\ a.a0 = (i : Int)) := by
   refine En (fun k s => s.2.1 = (k : Int) /\ k <= l.elems.length /\ ∀ e, Ah s.2.2.1 e = (if e ∈ l.elems.take k then Ah s.2.2.1 e else Ah c.1 e) /\ (e ∈ l.elems.take k -> ∃ a, Ah s.2.2.1 e = some a /\ a.a0 = (i : Int))) l.elems.length ?_ ⟨rfl, Nat.zero_le _, fun e => ⟨by simp, by simp⟩⟩
   rintro k ⟨x, j, d1, d2⟩ ⟨hj, hk, hd⟩
   simp only at hj hd
   subst hj
   by_cases he : k = l.elems.length
   .subst he
    rw [List.take_length] at hd
    exact .inl ⟨.inl (((i + 1 : Nat) : Int), d1, d2), by simp only [Dn, Bs, cond_false, AW (show i < 1000000000 by omega)], (d1, d2), rfl, hd⟩
   have ha : l.elems[k]? = some (l.elems[k]'(by omega)) := List.getElem?_eq_getElem _
   refine .inr ⟨by omega, (((Ah s58.2 (⟨l.elems[k]'(by omega), AN (1 - x)⟩ : AI)).getD (⟨0, 0⟩ : AI)).fin, ((k + 1 : Nat) : Int), A2 (l.elems[k]'(by omega)) (⟨(i : Int), (k : Int)⟩ : Bl) d1, A2 (l.elems[k]'(by omega)) x d2), by simp only [Dn, BS ha, cond_true, Ai, ha, Option.bind_some, AW (show k < 1000000000 by omega)], rfl, by omega, fun e => ?_⟩
   generalize l.elems[k]'(by omega) = y at ha
   dsimp only
   rw [List.take_add_one, ha, EH]
   by_cases hy : e = y
   .subst hy
    simp
   have hm : e ∈ l.elems.take k ++ (some y).toList ↔ e ∈ l.elems.take k := by simp [hy]
   rw [if_neg hy]
   simp only [hm]
   exact hd e
  refine ⟨c', hr, fun e => ?_⟩
  obtain ⟨g1, g2⟩ := hc' e
  by_cases hm : e ∈ l.elems
  .obtain ⟨a, h1, h2⟩ := g2 hm
   exact .inr ⟨a, l, h1, by rw [h2, Ai]; exact h, hm⟩
  rw [if_neg hm] at g1
  rcases hc e with ⟨h1, h2⟩ | ⟨a, l', h1, h2, h3⟩
  .refine .inl ⟨by rw [g1]; exact h1, fun q hq => ?_⟩
   rw [It h] at hq
   rcases List.mem_append.1 hq with hq | hq
   .exact h2 q hq
   rw [List.mem_singleton.1 hq]; exact hm
  exact .inr ⟨a, l', by rw [g1]; exact h1, h2, h3⟩
 exact ⟨a, b, hr, hL⟩
theorem AAa (p : AK) (hv : Br p) : ∃ n, Ca p = some (some n, 0) /\ U4 p n := by
 have q2 := hv.few.joins; have q3 := hv.few.signals
 unfold Ca
 simp only [Ob p hv, Option.bind_some, bne_self_eq_false, cond_false, NO p hv.few]
 have l2 : ∀ s58 : Int × List (AI × AI), ∃ r, AQ (Do p p s58) (0, []) = some r /\ ∃ n, r = (some n, 0) /\ U4 p n := by
  intro s58
  refine Bz (l := p.signals) (fun i c => True) (fun c _ => ?_) (fun i s c h _ => ?_) (c := []) trivial
  .obtain ⟨a, b, hr, hL⟩ := Xc p p hv.few s58 ((p.signals.length : Int), c)
   exact ⟨_, by simp only [Do, Bs, cond_false, hr]; rfl, ⟨p, s58.2, c, a, b⟩, rfl, hL⟩
  have := BV h
  exact .inr ⟨A2 s.at_ (i : Int) c, by simp only [Do, BS h, cond_true, Ai, h, Option.bind_some, AW (show i < 1000000000 by omega)], trivial⟩
 obtain ⟨r, hr, n, rfl, hn⟩ : ∃ r, AQ (Dp p p) (0, []) = some r /\ ∃ n, r = (some n, 0) /\ U4 p n := by
  refine Bz (l := p.joins) (fun i c => True) (fun c _ => ?_) (fun i j c h _ => ?_) (c := []) trivial
  .obtain ⟨r, hr, h⟩ := l2 ((p.joins.length : Int), c)
   exact ⟨r, by simp only [Dp, Bs, cond_false, hr]; rfl, h⟩
  have := BV h
  exact .inr ⟨A2 j.b j.a (A2 j.a j.b c), by simp only [Dp, BS h, cond_true, Ai, h, Option.bind_some, AW (show i < 1000000000 by omega)], trivial⟩
 exact ⟨n, hr, hn⟩
theorem Ya {p : AK} {n : Aw} (hv : Br p) (hN : Ca p = some (some n, 0)) : U4 p n := by
 obtain ⟨m, h1, h2⟩ := AAa p hv
 rw [hN] at h1
 cases h1
 exact h2
end Go.E
/- Plain Lean: what a leg wants free, as the document says it. No condition. -/
namespace Go.E
open Go
structure AAb (p : AK) (l : List Al) : Prop where
 steps : ∀ r ∈ l, ∀ s ∈ r.steps, 0 <= s.elem /\ s.elem < 40
 zone : ∀ r ∈ l, ∀ e ∈ r.zone, 0 <= e /\ e < 40
section
variable {p : AK} {n : Aw}
end
end Go.E
/- Plain Lean: what a leg wants free, and what a run claims: the program beside the document. No condition. -/
namespace Go.E
open Go
def KC (m : List (Int × Bool)) : List Int := m.map (·.1)
theorem TA (e : Int) : ∀ m : List (Int × Bool), (KC m).Nodup -> (KC (A2 e true m)).Nodup /\ ∀ x, x ∈ KC (A2 e true m) ↔ x ∈ KC m \/ x = e
 | [], _ => by simp [A2, KC]
 | q :: m, h => by
  unfold KC at h
  rw [List.map_cons, List.nodup_cons] at h
  obtain ⟨h1, h2⟩ := TA e m h.2
  have hu : A2 e true (q :: m) = if (e == q.1) = true then (q.1, true) :: m else q :: A2 e true m := rfl
  by_cases c : e = q.1
  .have : A2 e true (q :: m) = (q.1, true) :: m := by rw [hu, if_pos (by rw [c]; exact beq_self_eq_true _)]
   rw [this]
   unfold KC
   rw [List.map_cons]
   refine ⟨List.nodup_cons.2 h, fun x => ?_⟩
   rw [List.map_cons, c]
   constructor
   .exact .inl
   rintro (h | rfl)
   .exact h
   exact List.mem_cons_self
  have : A2 e true (q :: m) = q :: A2 e true m := by rw [hu, if_neg (fun hh => c (beq_iff_eq.1 hh))]
  rw [this]
  unfold KC at h1 h2 ⊢
  rw [List.map_cons]
  refine ⟨List.nodup_cons.2 ⟨fun hm => ?_, h1⟩, fun x => ?_⟩
  .rcases (h2 q.1).1 hm with hm | hm
   .exact h.1 hm
   exact c hm.symm
  rw [List.map_cons, List.mem_cons, List.mem_cons, h2]
  constructor
  .rintro (h | h | h)
   .exact .inl (.inl h)
   .exact .inl (.inr h)
   exact .inr h
  rintro ((h | h) | h)
  .exact .inl h
  .exact .inr (.inl h)
  exact .inr (.inr h)
structure P3 (m : List (Int × Bool)) (S : Int -> Prop) : Prop where
 nd : (KC m).Nodup
 mem : ∀ x, x ∈ KC m ↔ S x
theorem P3.put {m : List (Int × Bool)} {S : Int -> Prop} (h : P3 m S) (e : Int) : P3 (A2 e true m) fun x => S x \/ x = e := by
 obtain ⟨h1, h2⟩ := TA e m h.nd
 exact ⟨h1, fun x => by rw [h2, h.mem]⟩
theorem P3.ext {m : List (Int × Bool)} {S T : Int -> Prop} (h : P3 m S) (e : ∀ x, S x ↔ T x) : P3 m T := ⟨h.nd, fun x => by rw [h.mem, e]⟩
section
variable {p : AK} {n : Aw}
end
end Go.E
/- The example that the laws of timetables AJ at, reckoned by the kernel. No condition. -/
namespace Go.E
open Go Go.Proofs
set_option maxRecDepth 100000
theorem AAT : J6 = some true := by kernel_rfl
end Go.E
/- Plain Lean: the laws WayStands, WayRoads, WayChecks answer true, for every argument. No condition. -/
namespace Go.E
open Go
structure ACX (p : AK) (d : Ag) (n : Aw) (c : C4) : Prop where
 hv : Br p
 hN : Ca p = some (some n, 0)
 hn : Ba p n
 hL : U4 p n
 plan : c.plan = p
 built : KD p n c.roads
 hd : Jo d
section
variable {p : AK} {n : Aw}
theorem Vz (hv : Br p) (hn : Ba p n) {l : List Al} (hb : KD p n l) : P1 l /\ AAb p l := by
 have key : ∀ q ∈ l, ∃ (s : Nat) (r : Al), r ∈ IU p (s : Int) /\ Sb p r q := fun q hq => by
  obtain ⟨s, r, -, h2, -, h4, -⟩ := hb.road hv hn hq
  exact ⟨s, r, h2, h4⟩
 have hne := hv.ne
 refine ⟨⟨hb.len, fun q hq => ?_, fun q hq => ?_⟩, ⟨fun q hq t ht => ?_, fun q hq e he => ?_⟩⟩
 .obtain ⟨s, r, h2, f⟩ := key q hq
  obtain ⟨_, _, _, _, a1, a2, _⟩ := Iu (Eb h2).1
  rw [f.steps]; exact ⟨a1, a2⟩
 .obtain ⟨s, r, h2, f⟩ := key q hq
  have := f.zone.len
  omega
 .obtain ⟨s, r, h2, f⟩ := key q hq
  rw [f.steps] at ht
  have := N8 (Xd h2 t ht)
  omega
 obtain ⟨s, r, h2, f⟩ := key q hq
 have := N8 (f.zone.rng e he)
 omega
theorem AAc (p : AK) : ∃ c b, Ge p = some (c, b) /\ (b = true -> ∃ n, Br p /\ Ca p = some (some n, 0) /\ Ba p n /\ c.plan = p /\ KD p n c.roads) := by
 obtain ⟨b, h1, h2⟩ := Ru p
 unfold Ge
 simp only [h1, Option.bind_some]
 cases b with
 | false => exact ⟨_, false, rfl, by simp⟩
 | true =>
  have hv := h2 rfl
  obtain ⟨n, hN, hn⟩ := YU p hv
  obtain ⟨c, e, e1, e2⟩ := Zc hv hN hn
  simp only [Bool.not_true, cond_false, e1, Option.bind_some]
  refine ⟨c, e == 0, rfl, fun h => ?_⟩
  have he : e = 0 := beq_iff_eq.1 h
  rcases e2 with ⟨_, g1, g2⟩ | h3
  .exact ⟨n, hv, hN, hn, g1, g2⟩
  omega
theorem AAd (p : AK) (d : Ag) : ∃ c o b, IK p d = some (c, o, b) /\ (b = true -> ∃ n, o = some n /\ ACX p d n c /\ U2 p d) := by
 unfold IK
 obtain ⟨b0, f1, f2⟩ := Vt d
 simp only [f1, Option.bind_some]
 cases b0 with
 | false => exact ⟨_, none, false, rfl, by simp⟩
 | true =>
  have hd := f2 rfl
  obtain ⟨b1, h1, h2⟩ := Ru p
  simp only [Bool.not_true, cond_false, h1, Option.bind_some]
  cases b1 with
  | false => exact ⟨_, none, false, rfl, by simp⟩
  | true =>
   have hv := h2 rfl
   simp only [Bool.not_true, cond_false, U1 p hv.few hd, Option.bind_some]
   by_cases c0 : Hb p d = 0
   .obtain ⟨c, b, e1, e2⟩ := AAc p
    obtain ⟨n, hN, hn⟩ := YU p hv
    have hm : Ip p = some (some n) := by
     unfold Ip
     simp only [h1, hN, Option.bind_some, Bool.not_true, cond_false, I4, bne_self_eq_false]
    simp only [c0, bne_self_eq_false, cond_false, e1, hm, Option.bind_some, I4]
    refine ⟨c, some n, b, by cases b <;> rfl, fun hb => ?_⟩
    obtain ⟨m, g1, g2, g3, g4, g5⟩ := e2 hb
    rw [hN] at g2
    cases g2
    exact ⟨n, rfl, ⟨hv, hN, hn, Ya hv hN, g4, g5, hd⟩, S9 c0⟩
   have : (Hb p d != 0) = true := bne_iff_ne.2 c0
   rw [this]
   exact ⟨_, none, false, rfl, by simp⟩
end
end Go.E
/- Plain Lean: the laws WayLeads, WayRest, WayLonger answer true, for every argument. No condition. -/
namespace Go.E
open Go
section
variable {p : AK} {n : Aw}
def EC (m : Int) (s : A0) : A0 := ⟨s.name, AN (s.len + m), s.top, s.acc, s.brake⟩
theorem Yb (hv : Br p) {s : A0} (h1 : 1 <= s.len /\ s.len <= 4000) {m : Int} (h2 : 0 <= m /\ m <= 255) {e : Int} (h : N5 p (EC m s) e = true) : N5 p s e = true := by
 have hm := hv.args.margin
 unfold N5 at h ⊢
 split at h
 .rename_i c; rw [if_pos c]
 rename_i c
 rw [if_neg c]
 split at h
 .rename_i c1
  rw [if_pos c1]
  have h : AN (AN (s.len + m) + p.margin) <= Cu p e := of_decide_eq_true h
  rw [Be (n := s.len + m) (by omega) (by omega), Be (by omega) (by omega)] at h
  refine decide_eq_true ?_
  rw [Be (by omega) (by omega)]
  omega
 cases h
theorem Xe (hv : Br p) {d : Ag} (hk : U2 p d) {m : Int} (h2 : 0 <= m /\ m <= 255) {l : List Al} {run leg k : Int} (h : k ∈ C6 p l ⟨d.begin, d.stock.map (EC m), d.runs⟩ run leg) : k ∈ C6 p l d run leg := by
 obtain ⟨hf, i, a, x, s, rfl, g1, g2, g3⟩ := XX h
 have e1 : Gx p ⟨d.begin, d.stock.map (EC m), d.runs⟩ run leg = Gx p d run leg := rfl
 have e2 : IR p ⟨d.begin, d.stock.map (EC m), d.runs⟩ run leg = IR p d run leg := rfl
 rw [e1] at hf g3
 rw [e2] at g3
 unfold P0 at g2
 obtain ⟨r, k1, k2⟩ := Option.bind_eq_some_iff.1 g2
 obtain ⟨x', k3, k4⟩ := Option.bind_eq_some_iff.1 k2
 obtain ⟨s', k5, k6⟩ := Option.map_eq_some_iff.1 k4
 cases k6
 obtain ⟨j, hj⟩ := Int.eq_ofNat_of_zero_le (NL k5).1
 rw [hj, Ai] at k5
 have k5' : (d.stock.map (EC m))[j]? = some s := k5
 rw [List.getElem?_map] at k5'
 obtain ⟨s0, k7, rfl⟩ := Option.map_eq_some_iff.1 k5'
 have hs := AAY (hk.stock s0 (List.mem_of_getElem? k7))
 have hle : P0 d run leg = some (x, s0) := by
  unfold P0
  rw [show AY d.runs run = some r from k1]
  simp only [Option.bind_some, k3]
  rw [hj, Ai, k7]
  rfl
 unfold C6
 rw [if_neg (by omega), hle]
 refine Qm.2 ⟨i, a, by simp, g1, ?_⟩
 unfold Rm at g3 ⊢
 simp only [Bool.and_eq_true, beq_iff_eq, Bool.not_eq_true'] at g3 ⊢
 exact ⟨g3.1, g3.2.1, g3.2.2.1, g3.2.2.2.1, Yb hv hs h2 g3.2.2.2.2⟩
theorem Sc (p : AK) (d : Ag) (run leg m : Int) (hm : (Lit.int .u8 m).wf = true) : Gu p d run leg m = some true := by
 unfold Gu
 obtain ⟨c, o, b, h1, h2⟩ := AAd p d
 simp only [AAT, Option.bind_some, Bool.not_true, cond_false, h1]
 cases b with
 | false => cases o <;> rfl
 | true =>
  obtain ⟨n, rfl, a, hk⟩ := h2 rfl
  obtain ⟨hl, he⟩ := Vz a.hv a.hn a.built
  obtain ⟨m0, m1, mw⟩ := u8w hm
  have hs := a.hd.stock
  simp only [I4, Bool.not_true, cond_false, B0 (show ([] : List A0).length + d.stock.length <= 4294967296 by simp; omega), Option.bind_some, List.nil_append]
  obtain ⟨r, hr, rfl⟩ := Bz (l := d.stock) (step := Dm d run leg m (c, some n, true) n d.stock) (Post := fun r => r = true) (fun i st => st = (d.stock.take i).map (EC m) ++ d.stock.drop i) (fun st hst => by
   rw [List.take_length, List.drop_length, List.append_nil] at hst
   subst hst
   have hd' : Jo ⟨d.begin, d.stock.map (EC m), d.runs⟩ := ⟨a.hd.runs, by simp only [List.length_map]; exact a.hd.stock, a.hd.legs, fun i s hi => by
    simp only [List.getElem?_map] at hi
    obtain ⟨s0, k1, rfl⟩ := Option.map_eq_some_iff.1 hi
    exact a.hd.name i s0 k1⟩
   have hx' : LG ⟨d.begin, d.stock.map (EC m), d.runs⟩ := fun i r hi => by
    have := hk.ix i r hi
    simp only [List.length_map]
    exact this
   refine ⟨true, ?_, rfl⟩
   simp only [Dm, Bs, cond_false, Lu a.hv a.hn a.hd hk.ix hl, Lu a.hv a.hn hd' hx' hl, Option.bind_some]
   have r1 := Rn (p := p) (l := c.roads) (d := d) (run := run) (leg := leg)
   have r3 := Rn (p := p) (l := c.roads) (d := ⟨d.begin, d.stock.map (EC m), d.runs⟩) (run := run) (leg := leg)
   have r2 := hl.len
   rw [AAe (l := C6 p c.roads ⟨d.begin, d.stock.map (EC m), d.runs⟩ run leg) (b := true) (step := Dl d run leg (c, some n, true) (C6 p c.roads d run leg) (C6 p c.roads ⟨d.begin, d.stock.map (EC m), d.runs⟩ run leg)) ?_ (fun i k hi => by
    have := BV hi
    have hin := Xe a.hv hk ⟨m0, m1⟩ (List.mem_of_getElem? hi)
    simp only [Dl, BS hi, cond_true, Ai, hi, Option.bind_some, AB2 (C6 p c.roads d run leg) (show (C6 p c.roads d run leg).length < 1000000 by omega), decide_eq_true hin, Bool.not_true, cond_false, AW (show i < 1000000000 by omega)])]
   .rfl
   .simp only [Dl, Bs, cond_false]
    by_cases q1 : run < 0
    .simp [q1]
    by_cases q2 : (d.runs.length : Int) <= run
    .simp [q1, q2]
    by_cases q3 : leg < 0
    .simp [q1, q2, q3]
    obtain ⟨r, hr⟩ := Fj (l := d.runs) (n := run) (by omega) (by omega)
    by_cases q4 : (r.legs.length : Int) <= leg
    .simp [q1, q2, q3, hr, q4]
    by_cases q5 : 0 < ((C6 p c.roads d run leg).length : Int)
    .simp only [q1, q2, q3, q4, q5, hr, decide_true, decide_false, cond_true, cond_false, Option.bind_some]; rfl
    simp only [q1, q2, q3, q4, q5, hr, decide_true, decide_false, cond_true, cond_false, Option.bind_some]
    obtain ⟨cp, cl⟩ := c
    have hp := a.plan
    simp only at hp
    subst hp
    rw [U3 a.hv a.hN a.hn a.hd hl]
    have : PW cp cl d ≠ 0 := fun h0 => by
     obtain ⟨i, rfl⟩ := Int.eq_ofNat_of_zero_le (show 0 <= run by omega)
     obtain ⟨k, rfl⟩ := Int.eq_ofNat_of_zero_le (show 0 <= leg by omega)
     refine Vy h0 (i := i) (k := k) (r := r) hr (by omega) ?_
     have q6 : ¬ 0 < ((C6 cp cl d (i : Int) (k : Int)).length : Int) := q5
     exact List.eq_nil_of_length_eq_zero (by omega)
    simp only [Option.bind_some, bne_iff_ne.2 this]; rfl) (fun i s st hi hst => by
   have hil := BV hi
   have g1 : AY st (i : Int) = some s := by
    rw [Ai, hst, List.getElem?_append_right (by simp; omega)]
    simp only [List.length_map, List.length_take, Nat.min_eq_left (Nat.le_of_lt hil), Nat.sub_self, List.getElem?_drop, Nat.add_zero]
    exact hi
   have hlen : st.length = d.stock.length := by rw [hst]; simp; omega
   have g2 : AY (A4 st (i : Int) (EC m s)) (i : Int) = some (EC m s) := by
    unfold A4
    rw [Int.toNat_natCast, Ai, List.getElem?_set, if_pos rfl, if_pos (by omega)]
   have hnm := a.hd.name i s hi
   have e0 : (⟨s.name, AN (s.len + AN m), s.top, s.acc, s.brake⟩ : A0) = EC m s := by unfold EC; rw [mw]
   simp only [Dm, BS hi, cond_true, g1, Option.bind_some, e0, g2, Rq (EC m s) (show (EC m s).name.size <= 1000 by show s.name.size <= 1000; omega)]
   cases HY (EC m s) with
   | false => exact .inl ⟨true, rfl, rfl⟩
   | true =>
    refine .inr ⟨A4 st (i : Int) (EC m s), by simp only [Bool.not_true, cond_false, AW (show i < 1000000000 by omega)], ?_⟩
    rw [hst]
    unfold A4
    rw [Int.toNat_natCast, It hi, List.map_append, List.set_append_right _ _ (by simp; omega)]
    have hdr : d.stock.drop i = s :: d.stock.drop (i + 1) := by
     rw [List.drop_eq_getElem_cons hil]
     rw [List.getElem?_eq_getElem hil] at hi
     cases hi
     rfl
    rw [hdr]
    simp [Nat.min_eq_left (Nat.le_of_lt hil)]) (c := d.stock) (by simp)
  exact hr
end
end Go.E
