/- Plain Lean: what is built is fine (law ProofBuilt); what a chart without one of its roads lacks, and with one of them twice (law ProofLacks). No condition. -/
import Derived.KernelRfl
import Derived.Test.YtlmjaeojocjhkaaGreatJ5
set_option linter.unusedVariables false
set_option linter.unusedSimpArgs false
namespace Go.E
open Go
section
variable {p : AK} {n : Az}
theorem UA (hv : BP p) {s s' : Int} {a b : Ag} (ha : a ∈ Ij p s) (hb : b ∈ Ij p s') (h : a.steps = b.steps) : a = b /\ s = s' := by
 have fa := En ha
 have fb := En hb
 have e := Zf hv fa.1 fb.1 h
 obtain ⟨s1, n1, l1, a1, a2, a3, a4, a5, a6, a7⟩ := JC fa.1
 obtain ⟨s2, n2, l2, b1, b2, b3, b4, b5, b6, b7⟩ := JC fb.1
 rw [e, b1] at a1
 have e1 : s2 = s1 := Option.some.inj a1
 subst e1
 rw [h, b4] at a4
 have e2 : n2 = n1 := Option.some.inj a4
 rw [h, b5] at a5
 have e3 : l2 = l1 := Option.some.inj a5
 subst e3
 have e4 : a.fin = b.fin /\ a.to = b.to := by
  unfold O2 at a6 b6
  split at a6
  .rename_i k
   rw [if_pos k] at b6
   simp only [decide_eq_true_eq] at a6 b6
   exact ⟨by rw [a6.1, b6.1], by rw [a6.2, b6.2]⟩
  rename_i k
  rw [if_neg k] at b6
  split at a6
  .rename_i k2
   rw [if_pos k2] at b6
   simp only [decide_eq_true_eq] at a6 b6
   exact ⟨by rw [a6.1, b6.1], by rw [a6.2, b6.2]⟩
  rename_i k2
  rw [if_neg k2] at b6
  simp only [Bool.and_eq_true, decide_eq_true_eq] at a6 b6
  exact ⟨by rw [a6.2.1, b6.2.1], by rw [a6.2.2, b6.2.2]⟩
 refine ⟨AAT.2 ⟨e, e4.2, e4.1, h, by rw [a7, b7, e2], by rw [fa.2.2.1, fb.2.2.1], by rw [fa.2.2.2.1, fb.2.2.2.1], by rw [fa.2.2.2.2.1, fb.2.2.2.2.1], by rw [fa.2.2.2.2.2.1, fb.2.2.2.2.2.1]⟩, ?_⟩
 rw [<- fa.2.1, <- fb.2.1, e]
theorem JE (hv : BP p) : ∀ i : Nat, (LS p i).Nodup /\ ∀ r ∈ LS p i, ∃ s : Nat, s < i /\ r ∈ Ij p (s : Int)
 | 0 => ⟨by simp [LS], by simp [LS]⟩
 | i + 1 => by
  obtain ⟨h1, h2⟩ := JE hv i
  rw [QI]
  refine ⟨List.nodup_append.2 ⟨h1, Zc _, fun a ha b hb e => ?_⟩, fun r hr => ?_⟩
  .obtain ⟨s, hs, hm⟩ := h2 a ha
   have := (UA hv hm hb (by rw [e])).2
   omega
  rcases List.mem_append.1 hr with hr | hr
  .obtain ⟨s, hs, hm⟩ := h2 r hr
   exact ⟨s, by omega, hm⟩
  exact ⟨i, by omega, hr⟩
theorem ACR {s : Nat} {r : Ag} (hs : s < p.signals.length) (hr : r ∈ Ij p (s : Int)) : r ∈ Hm p := by
 unfold Hm LS
 exact List.mem_flatMap.2 ⟨s, List.mem_range.2 hs, hr⟩
structure Kb (p : AK) (n : Az) (l : List Ag) : Prop where
 eq : l = (Hm p).map (Lj n)
 len : l.length <= 64
theorem Kb.road (hv : BP p) (hn : Bf p n) {l : List Ag} (hb : Kb p n l) {q : Ag} (hq : q ∈ l) : ∃ (s : Nat) (r : Ag), s < p.signals.length /\ r ∈ Ij p (s : Int) /\ q = Lj n r /\ TM p r q /\ q.frm = (s : Int) := by
 rw [hb.eq] at hq
 obtain ⟨r, hr, rfl⟩ := List.mem_map.1 hq
 obtain ⟨s, hs, hm⟩ := (JE hv p.signals.length).2 r hr
 obtain ⟨_, f⟩ := OC hv hn (K9 hm) (show r.needs.length <= 1000 by have := (En hm).2.2.2.2.2.2.2.2; omega)
 exact ⟨s, r, hs, hm, rfl, f, by rw [f.frm]; exact (En hm).2.1⟩
theorem Kb.inj (hv : BP p) (hn : Bf p n) {l : List Ag} (hb : Kb p n l) {i k : Nat} {a b : Ag} (ha : l[i]? = some a) (hk : l[k]? = some b) (h : a.steps = b.steps) : i = k := by
 rw [hb.eq, List.getElem?_map] at ha hk
 obtain ⟨x, hx, rfl⟩ := Option.map_eq_some_iff.1 ha
 obtain ⟨y, hy, rfl⟩ := Option.map_eq_some_iff.1 hk
 obtain ⟨s, hs, hm⟩ := (JE hv p.signals.length).2 x (List.mem_of_getElem? hx)
 obtain ⟨s', hs', hm'⟩ := (JE hv p.signals.length).2 y (List.mem_of_getElem? hy)
 obtain ⟨_, f⟩ := OC hv hn (K9 hm) (show x.needs.length <= 1000 by have := (En hm).2.2.2.2.2.2.2.2; omega)
 obtain ⟨_, f'⟩ := OC hv hn (K9 hm') (show y.needs.length <= 1000 by have := (En hm').2.2.2.2.2.2.2.2; omega)
 rw [f.steps, f'.steps] at h
 have e := (UA hv hm hm' h).1
 subst e
 have hnd := (JE hv p.signals.length).1
 obtain ⟨h1, h2⟩ := List.getElem?_eq_some_iff.1 hx
 obtain ⟨h3, h4⟩ := List.getElem?_eq_some_iff.1 hy
 exact (List.getElem_inj hnd).1 (h2.trans h4.symm)
theorem Kb.have (hv : BP p) (hn : Bf p n) {l : List Ag} (hb : Kb p n l) {s : Nat} {r : Ag} (hs : s < p.signals.length) (hr : r ∈ Ij p (s : Int)) : ∃ q ∈ l, q = Lj n r /\ q.steps = r.steps := by
 obtain ⟨_, f⟩ := OC hv hn (K9 hr) (show r.needs.length <= 1000 by have := (En hr).2.2.2.2.2.2.2.2; omega)
 exact ⟨_, by rw [hb.eq]; exact List.mem_map.2 ⟨r, ACR hs hr, rfl⟩, rfl, f.steps⟩
theorem AAR (hv : BP p) (hN : Cp p = some (some n, 0)) (hn : Bf p n) : ∃ c e, Gj p = some (c, e) /\ ((e = 0 /\ c.plan = p /\ Kb p n c.roads) \/ e = 3) := by
 unfold Gj
 have e6 : B2 n = some p := by unfold B2; rw [hn.plan, N4 p hv.few]; rfl
 simp only [hN, Option.bind_some, JM, bne_self_eq_false, cond_false, Wr hn hv.ns]
 by_cases c : 64 < (Hm p).length
 .have : QJ p = ([], 3) := by unfold QJ; rw [if_pos c]
  rw [this]
  exact ⟨_, 3, rfl, .inr rfl⟩
 have ha : QJ p = (Hm p, 0) := by unfold QJ; rw [if_neg c]
 rw [ha]
 simp only [bne_self_eq_false, cond_false]
 refine ⟨⟨p, (Hm p).map (Lj n)⟩, 0, ?_, .inl ⟨rfl, rfl, rfl, by simp; omega⟩⟩
 exact Zg (l := Hm p) (Lj n) (step := Eh n (Hm p, 0)) (fin := fun l => ((⟨p, l⟩ : DX), (0 : Int))) (by omega) (fun q hq => by
  simp only [Eh, Bn, cond_false, e6, Option.bind_some]; rfl) (fun i r q hr hq hlen => by
  have hi := BV hr
  obtain ⟨s, hs, hm⟩ := (JE hv p.signals.length).2 r (List.mem_of_getElem? hr)
  have f2 := (OC hv hn (r := r) (K9 hm) (by have := (En hm).2.2.2.2.2.2.2.2; omega)).1
  simp only [Eh, BT hr, cond_true, Ak, hq, Option.bind_some, f2, AX (show i < 1000000000 by omega)])
end
end Go.E
/- Plain Lean: the document's check takes each valid plan. No condition. -/
namespace Go.E
open Go
theorem ABT {α β : Type} {l : List α} {step : Int -> Option (Int ⊕ β)} {b : β} (h0 : step (l.length : Int) = some (.inr b)) (h1 : ∀ (i : Nat) a, l[i]? = some a -> step (i : Int) = some (.inl ((i + 1 : Nat) : Int))) : AO step 0 = some b := by
 obtain ⟨c, hc, rfl⟩ := Bu (l := l) (step := step) (Post := fun c => c = b) (fun _ _ => True) (fun _ => ⟨b, h0, rfl⟩) (fun i a ha _ => .inr ⟨h1 i a ha, trivial⟩)
 exact hc
theorem YL (s : ByteArray) (h : Ik s) : Co s = some true := by
 have h1 := h.pos; have h2 := h.le
 unfold Co
 obtain ⟨b, hb, rfl⟩ := Lh (s := s) (step := Df s) (Post := fun b => b = true) (fun _ _ => True) 0 (Nat.zero_le _)
  (fun _ => ⟨true, by
   have : decide ((s.size : Int) < s.size) = false := by simp
   simp only [Df, this, cond_false, decide_eq_true (show (1 : Int) <= s.size by omega), decide_eq_true (show (s.size : Int) <= 8 by omega)]; rfl, rfl⟩) (fun i c _ hc => by
   have hlt : i < s.size := by
    by_cases h : i < s.size
    .exact h
    rw [getElem?_neg s i h] at hc; cases hc
   have hd : decide ((i : Int) < s.size) = true := by simpa using hlt
   have hx : LD s (i : Int) = some c := hc
   have hl : ((bif decide (97 <= (c.toNat : Int)) then bif decide ((c.toNat : Int) <= 122) then some true else bif decide (65 <= (c.toNat : Int)) then some (decide ((c.toNat : Int) <= 90)) else some false else bif decide (65 <= (c.toNat : Int)) then some (decide ((c.toNat : Int) <= 90)) else some false : Option Bool)) = some (DU c) := by
    unfold DU
    cases decide (97 <= (c.toNat : Int)) <;> cases decide ((c.toNat : Int) <= 122) <;> cases decide (65 <= (c.toNat : Int)) <;> cases decide ((c.toNat : Int) <= 90) <;> rfl
   refine .inr ⟨?_, trivial⟩
   simp only [Df, hd, cond_true, hx, Option.bind_some, hl, AX (show i < 1000000000 by omega)]
   rcases h.chars i c hc with h | ⟨h0, h⟩
   .simp [h]
   cases hL : DU c with
   | true => simp
   | false =>
    simp only [MQ, Bool.and_eq_true, decide_eq_true_eq] at h
    have g1 : ¬ (c.toNat : Int) < 48 := by omega
    have g2 : ¬ (57 : Int) < c.toNat := by omega
    have g3 : ((i : Int) == 0) = false := by simp only [beq_eq_false_iff_ne]; omega
    simp [g1, g2, g3])
 exact hb
end Go.E
/- Plain Lean: the program's check answers of every plan that is not too long; what it takes is valid. No condition. -/
namespace Go.E
open Go
theorem Sc (s : ByteArray) : ∃ b, CJ s = some b /\ (b = true -> Ik s) := by
 have emp : ByteArray.empty.toList = [] := List.length_eq_zero_iff.1 ((Im ByteArray.empty).trans rfl)
 unfold CJ
 by_cases c0 : s.size = 0
 .have : (s.toList == ByteArray.empty.toList) = true := by
   rw [emp, List.length_eq_zero_iff.1 ((Im s).trans c0)]; rfl
  exact ⟨false, by simp only [this, cond_true, Option.bind_some], by simp⟩
 have e0 : (s.toList == ByteArray.empty.toList) = false := by
  rw [beq_eq_false_iff_ne, emp]
  intro e
  have := Im s
  rw [e] at this
  exact c0 this.symm
 by_cases c1 : 8 < s.size
 .exact ⟨false, by simp only [e0, cond_false, decide_eq_true (show (8 : Int) < s.size by omega), cond_true, Option.bind_some], by simp⟩
 have h0 : s[0]? = some s[0] := getElem?_pos s 0 (by omega)
 have x0 : LD s 0 = some s[0] := h0
 simp only [e0, decide_eq_false (show ¬ (8 : Int) < s.size by omega), cond_false, x0, Option.bind_some, GM]
 cases l0 : DU s[0] with
 | false => exact ⟨false, rfl, by simp⟩
 | true =>
  refine Lh (s := s) (step := Cq s) (fun i c => DU c = true \/ (i ≠ 0 /\ MQ c = true)) 1 (by omega) (fun g => ⟨true, by
   have : decide ((s.size : Int) < s.size) = false := by simp
   simp only [Cq, this, cond_false], fun _ => ⟨by omega, by omega, fun i c hc => ?_⟩⟩) (fun i c hi hc => ?_)
  .by_cases hi : i = 0
   .subst hi; rw [h0] at hc; cases hc; exact .inl l0
   exact g i c (by omega) hc
  have hlt : i < s.size := by
   by_cases h : i < s.size
   .exact h
   rw [getElem?_neg s i h] at hc; cases hc
  have hd : decide ((i : Int) < s.size) = true := by simpa using hlt
  have hx : LD s (i : Int) = some c := hc
  simp only [Cq, hd, cond_true, hx, Option.bind_some, GM, AX (show i < 1000000000 by omega)]
  cases hL : DU c with
  | true => exact .inr ⟨by simp, .inl rfl⟩
  | false =>
   by_cases h1 : (c.toNat : Int) < 48
   .exact .inl ⟨false, by simp [h1], by simp⟩
   by_cases h2 : (57 : Int) < c.toNat
   .exact .inl ⟨false, by simp [h1, h2], by simp⟩
   exact .inr ⟨by simp [h1, h2], .inr ⟨by omega, by simp [MQ]; omega⟩⟩
end Go.E
/- Plain Lean: the program and the document say the same of what is wrong first with a chart (ProofChecks). No condition. -/
namespace Go.E
open Go
end Go.E
/- Plain Lean: where a run of a timetable stands ahead of a leg, and by which signal it goes: the program beside the document. No condition. -/
namespace Go.E
open Go
section
variable {p : AK} {n : Az}
theorem Vc (h : Bf p n) (e : Int) : DR n e = some (Gz p e) := by
 unfold DR Gz
 rw [Vd h]
 cases AY p.elems e <;> rfl
theorem SZ (h : Bf p n) (hf : Ei p) : B2 n = some p := by unfold B2; rw [h.plan, N4 p hf]; rfl
structure F3 (d : Ac) : Prop where
 runs : d.runs.length <= 12
 stock : d.stock.length <= 10
 legs : ∀ (i : Nat) r, d.runs[i]? = some r -> r.legs.length <= 20 /\ r.name.size <= 100
 name : ∀ (i : Nat) s, d.stock[i]? = some s -> s.name.size <= 100
theorem Wg (d : Ac) : ∃ b, K2 d = some b /\ (b = true -> F3 d) := by
 unfold K2
 by_cases h1 : (10 : Int) < d.stock.length
 .exact ⟨false, by simp [h1], by simp⟩
 by_cases h2 : (12 : Int) < d.runs.length
 .exact ⟨false, by simp [h1, h2], by simp⟩
 simp only [h1, h2, decide_false, cond_false, Option.bind_some]
 refine Bu (l := d.runs) (fun _ r => r.legs.length <= 20 /\ r.name.size <= 100) (fun g1 => ?_) (fun i r hr _ => ?_)
 .simp only [JW, Bn, cond_false]
  obtain ⟨b, hb, hp⟩ : ∃ b, AO (HV d) 0 = some b /\ (b = true -> F3 d) := by
   refine Bu (l := d.stock) (fun _ s => s.name.size <= 100) (fun g2 => ?_) (fun i s hs _ => ?_)
   .exact ⟨true, by simp only [HV, Bn, cond_false], fun _ => ⟨by omega, by omega, g1, g2⟩⟩
   have := BV hs
   simp only [HV, BT hs, cond_true, Ak, hs, Option.bind_some]
   by_cases hn : (100 : Int) < s.name.size
   .exact .inl ⟨false, by simp [hn], by simp⟩
   exact .inr ⟨by simp [hn, AX (show i < 1000000000 by omega)], by omega⟩
  exact ⟨b, by rw [hb]; rfl, hp⟩
 have := BV hr
 simp only [JW, BT hr, cond_true, Ak, hr, Option.bind_some]
 by_cases hn : (20 : Int) < r.legs.length
 .exact .inl ⟨false, by simp [hn], by simp⟩
 by_cases hm : (100 : Int) < r.name.size
 .exact .inl ⟨false, by simp [hn, hm], by simp⟩
 exact .inr ⟨by simp [hn, hm, AX (show i < 1000000000 by omega)], by omega, by omega⟩
def Ej (p : AK) (s : Int) : Option AI := (AY p.signals s).map (·.at_)
def RY (p : AK) (e : Int) : AI := if (Ay p ⟨e, 0⟩).isSome = true /\ (Ay p ⟨e, 1⟩).isSome = false then ⟨e, 1⟩ else if (Ay p ⟨e, 1⟩).isSome = true /\ (Ay p ⟨e, 0⟩).isSome = false then ⟨e, 0⟩ else ⟨e, -1⟩
def Qh (p : AK) (l : C4) : Option AI := if l.fin = 1 then Ej p l.to else if l.fin = 3 then some (RY p l.to) else none
def Fe (p : AK) (r : Dg) (leg : Int) : Option AI := if leg = 0 then Ej p r.frm else (AY r.legs (leg - 1)).bind (Qh p)
def Ih (d : Ac) (run leg : Int) : Option Dg := (AY d.runs run).bind fun r => if 0 <= leg /\ leg <= r.legs.length then some r else none
def Lg (p : AK) (d : Ac) (run leg : Int) : Option AI := (Ih d run leg).bind fun r => Fe p r leg
def BO (p : AK) (d : Ac) (run leg : Int) : Int := ((Lg p d run leg).map (·.elem)).getD (-1)
def ZP (p : AK) (h : AI) (t : Bool) : Int := if h.fin < 0 then -1 else if t = true then (if Af p h.elem = 1 then A9 p ⟨h.elem, 1 - h.fin⟩ else -1) else A9 p h
def Er (p : AK) (d : Ac) (run leg : Int) : Int := ((Ih d run leg).bind fun r => (Fe p r leg).bind fun h => (AY r.legs leg).map fun x => ZP p h x.turn).getD (-1)
theorem Ek {d : Ac} {run leg : Int} {r : Dg} (h : Ih d run leg = some r) : AY d.runs run = some r /\ 0 <= leg /\ leg <= r.legs.length /\ 0 <= run /\ run < d.runs.length := by
 unfold Ih at h
 cases hi : AY d.runs run with
 | none => rw [hi] at h; cases h
 | some q =>
  rw [hi] at h
  simp only [Option.bind_some] at h
  split at h
  .rename_i hc
   cases h
   have := N0 hi
   exact ⟨rfl, hc.1, hc.2, this.1, this.2⟩
  cases h
theorem RZ (d : Ac) (run leg : Int) : ((bif decide (run < 0) then some true else bif decide ((d.runs.length : Int) <= run) then some true else bif decide (leg < 0) then some true else (AY d.runs run).bind fun y38 => some (decide ((y38.legs.length : Int) < leg)) : Option (Bool))) = some (!(Ih d run leg).isSome) := by
 unfold Ih
 by_cases h1 : run < 0
 .simp [h1, Cn (.inl h1)]
 by_cases h2 : (d.runs.length : Int) <= run
 .simp [h1, h2, Cn (.inr h2)]
 obtain ⟨r, hr⟩ := Gk (l := d.runs) (n := run) (by omega) (by omega)
 by_cases h3 : leg < 0
 .simp [h1, h2, h3, hr, show ¬ (0 <= leg) by omega]
 by_cases h4 : (r.legs.length : Int) < leg
 .simp [h1, h2, h3, hr, h4, show ¬ (leg <= (r.legs.length : Int)) by omega]
 simp [h1, h2, h3, hr, h4, show 0 <= leg by omega, show leg <= (r.legs.length : Int) by omega]
theorem ZQ (p : AK) (s : Int) : I7 p s = some ((Ej p s).getD ⟨0, 0⟩, (Ej p s).isSome) := by
 rw [AAs]; unfold Ej
 cases AY p.signals s <;> rfl
theorem Oo (hn : Bf p n) (s : Int) : Cf n s = some ((Ej p s).getD ⟨0, 0⟩, (Ej p s).isSome) := by
 rw [Tr hn]; unfold Ej
 cases AY p.signals s <;> rfl
theorem TK {l : List C4} {leg : Int} (h0 : leg ≠ 0) (h1 : 0 <= leg) (h2 : leg <= l.length) (hl : l.length <= 1000) : AP (leg - 1) = leg - 1 /\ ∃ x, AY l (leg - 1) = some x := by
 rw [B1 (by omega) (by omega)]
 exact ⟨rfl, Gk (by omega) (by omega)⟩
theorem P4 (hv : BP p) {d : Ac} (hd : F3 d) (run leg : Int) : Gu p d run leg = some ((Lg p d run leg).getD ⟨0, 0⟩, (Lg p d run leg).isSome) := by
 have hj := hv.nj
 unfold Gu Lg
 rw [RZ]
 cases h : Ih d run leg with
 | none => rfl
 | some r =>
  obtain ⟨hr, h1, h2, h3, h4⟩ := Ek h
  have hL := (hd.legs _ r (DM hr).1).1
  simp only [Option.isSome_some, Bool.not_true, Option.bind_some, cond_false, hr, Cx]
  unfold Fe
  by_cases h0 : leg = 0
  .simp only [if_pos h0, ZQ, Option.bind_some]
  simp only [if_neg h0]
  obtain ⟨e, x, hx⟩ := TK h0 h1 h2 (by omega)
  simp only [e, hx, Option.bind_some, Qh]
  by_cases f1 : x.fin = 1
  .simp only [if_pos f1, ZQ, Option.bind_some]
  simp only [if_neg f1]
  by_cases f3 : x.fin = 3
  .simp only [if_pos f3, Hi p (show p.joins.length < 1000000 by omega), Option.bind_some, RY]
   cases (Ay p ⟨x.to, 0⟩).isSome <;> cases (Ay p ⟨x.to, 1⟩).isSome <;> rfl
  simp only [if_neg f3]; rfl
theorem Iw (hv : BP p) {d : Ac} (hd : F3 d) (run leg : Int) : Di p d run leg = some (BO p d run leg) := by
 unfold Di BO
 rw [P4 hv hd]
 cases Lg p d run leg <;> rfl
theorem Ra (hv : BP p) {s : Int} {h : AI} (e : Ej p s = some h) : 0 <= h.fin /\ h.fin <= 3 := by
 unfold Ej at e
 obtain ⟨a, ha, rfl⟩ := Option.map_eq_some_iff.1 e
 have hh := hv.sig.has _ a (DM ha).1
 unfold Do at hh
 simp only [Bool.and_eq_true, decide_eq_true_eq] at hh
 have : CM (Af p a.at_.elem) <= 4 := by unfold CM; repeat' split <;> omega
 omega
theorem Rb (e : Int) : (RY p e).elem = e /\ -1 <= (RY p e).fin /\ (RY p e).fin <= 1 := by
 unfold RY
 repeat' split
 all_goals simp
theorem ZR (hv : BP p) {r : Dg} {leg : Int} {h : AI} (e : Fe p r leg = some h) : -1 <= h.fin /\ h.fin <= 3 := by
 unfold Fe at e
 split at e
 .have := Ra hv e; omega
 obtain ⟨x, hx, e⟩ := Option.bind_eq_some_iff.1 e
 unfold Qh at e
 split at e
 .have := Ra hv e; omega
 split at e
 .cases e
  have := Rb (p := p) x.to; omega
 cases e
theorem YK (hv : BP p) (x : AI) : FB p x = some (A9 p x) := by
 have := hv.ns
 exact LN p (by omega) x
theorem Wh (hv : BP p) {d : Ac} (hd : F3 d) (run leg : Int) : Jb p d run leg = some (Er p d run leg) := by
 unfold Jb Er
 rw [P4 hv hd]
 unfold Lg
 cases h : Ih d run leg with
 | none => rfl
 | some r =>
  obtain ⟨hr, h1, h2, h3, h4⟩ := Ek h
  have hL := (hd.legs _ r (DM hr).1).1
  simp only [Option.bind_some]
  cases hh : Fe p r leg with
  | none => rfl
  | some q =>
   have hf := ZR hv hh
   simp only [Option.isSome_some, Bool.not_true, cond_false, hr, Option.bind_some, Option.getD_some]
   by_cases c : (r.legs.length : Int) <= leg
   .simp only [c, decide_true, cond_true, Option.bind_some, Cn (.inr c), Option.map_none, Option.getD_none]
   obtain ⟨x, hx⟩ := Gk (l := r.legs) (n := leg) h1 (by omega)
   simp only [c, decide_false, cond_false, Option.bind_some, hx, Option.map_some, Option.getD_some, ZP, YK hv, F4]
   by_cases f : q.fin < 0
   .simp only [f, decide_true, cond_true, if_true]
   simp only [f, decide_false, cond_false, if_false]
   rw [B1 (n := 1 - q.fin) (by omega) (by omega)]
   cases x.turn with
   | false => rfl
   | true =>
    simp only [cond_true, Jq, if_true]
    by_cases k : Af p q.elem = 1
    .simp only [if_pos k]; rfl
    simp only [if_neg k]; rfl
theorem NG (d : Ac) (run leg : Int) : GJ d run leg = some (((Ih d run leg).map (·.legs)).getD [], (Ih d run leg).isSome) := by
 unfold GJ
 rw [RZ]
 cases h : Ih d run leg with
 | none => rfl
 | some r =>
  obtain ⟨hr, -⟩ := Ek h
  simp only [Option.isSome_some, Bool.not_true, Option.bind_some, cond_false, hr, Option.map_some, Option.getD_some]
theorem AAO (hn : Bf p n) (s : Int) : Gy n s = some (((Ej p s).map (·.elem)).getD (-1)) := by
 unfold Gy Iu
 rw [Oo hn]
 cases Ej p s <;> rfl
theorem Ix (hn : Bf p n) {d : Ac} (hd : F3 d) (run leg : Int) : C3 n d run leg = some (BO p d run leg) := by
 unfold C3 BO Lg
 rw [NG]
 cases h : Ih d run leg with
 | none => rfl
 | some r =>
  obtain ⟨hr, h1, h2, h3, h4⟩ := Ek h
  have hL := (hd.legs _ r (DM hr).1).1
  simp only [Option.isSome_some, Bool.not_true, Option.bind_some, cond_false, hr, Option.map_some, Option.getD_some, Cx, AAO hn]
  unfold Fe
  by_cases h0 : leg = 0
  .simp only [if_pos h0]
  simp only [if_neg h0]
  obtain ⟨e, x, hx⟩ := TK h0 h1 h2 (by omega)
  simp only [e, hx, Option.bind_some, Qh]
  by_cases f1 : x.fin = 1
  .simp only [if_pos f1]
  simp only [if_neg f1]
  by_cases f3 : x.fin = 3
  .simp only [if_pos f3, Option.map_some, Option.getD_some, (Rb x.to).1]
  simp only [if_neg f3]; rfl
theorem Ve (hv : BP p) (hn : Bf p n) {d : Ac} (hd : F3 d) {run leg : Int} {r : Dg} (h : Ih d run leg = some r) :
  ∃ q b, Ig n d run leg = some (q, b) /\ ((b = false /\ (Fe p r leg = none \/ ∃ x, Fe p r leg = some x /\ x.fin < 0)) \/ (b = true /\ Fe p r leg = some q /\ 0 <= q.fin /\ q.fin <= 3)) := by
 obtain ⟨hr, h1, h2, h3, h4⟩ := Ek h
 have hL := (hd.legs _ r (DM hr).1).1
 have sg : ∀ s, ((Ej p s).isSome = false /\ (Ej p s = none \/ ∃ x, Ej p s = some x /\ x.fin < 0)) \/ ((Ej p s).isSome = true /\ Ej p s = some ((Ej p s).getD ⟨0, 0⟩) /\ 0 <= ((Ej p s).getD ⟨0, 0⟩).fin /\ ((Ej p s).getD ⟨0, 0⟩).fin <= 3) := fun s => by
  cases e : Ej p s with
  | none => exact .inl ⟨rfl, .inl rfl⟩
  | some q => exact .inr ⟨rfl, rfl, Ra hv e⟩
 unfold Ig
 simp only [hr, Option.bind_some, Cx]
 unfold Fe
 by_cases h0 : leg = 0
 .simp only [if_pos h0, Oo hn, Option.bind_some]
  exact ⟨_, _, rfl, sg _⟩
 simp only [if_neg h0]
 obtain ⟨e, x, hx⟩ := TK h0 h1 h2 (by omega)
 simp only [e, hx, Option.bind_some, Qh]
 by_cases f1 : x.fin = 1
 .simp only [if_pos f1, Oo hn, Option.bind_some]
  exact ⟨_, _, rfl, sg _⟩
 simp only [if_neg f1]
 by_cases f3 : x.fin = 3
 .simp only [if_pos f3, KE hn, Option.bind_some, RY]
  cases (Ay p ⟨x.to, 0⟩).isSome <;> cases (Ay p ⟨x.to, 1⟩).isSome
  .exact ⟨_, _, rfl, .inl ⟨rfl, .inr ⟨_, rfl, by simp⟩⟩⟩
  .exact ⟨_, _, rfl, .inr ⟨rfl, rfl, by simp, by simp⟩⟩
  .exact ⟨_, _, rfl, .inr ⟨rfl, rfl, by simp, by simp⟩⟩
  exact ⟨_, _, rfl, .inl ⟨rfl, .inr ⟨_, rfl, by simp⟩⟩⟩
 simp only [if_neg f3]
 refine ⟨_, _, rfl, ?_⟩
 simp
theorem Wi (hv : BP p) (hn : Bf p n) {d : Ac} (hd : F3 d) (run leg : Int) : Hs n d run leg = some (Er p d run leg) := by
 unfold Hs Er
 rw [NG]
 cases h : Ih d run leg with
 | none => rfl
 | some r =>
  obtain ⟨hr, h1, h2, h3, h4⟩ := Ek h
  simp only [Option.isSome_some, Bool.not_true, Option.bind_some, cond_false, Option.map_some, Option.getD_some]
  by_cases c : leg = (r.legs.length : Int)
  .have : AY r.legs leg = none := Cn (.inr (by omega))
   simp only [c, beq_self_eq_true, cond_true]
   rw [<- c, this]
   cases Fe p r leg <;> rfl
  obtain ⟨x, hx⟩ := Gk (l := r.legs) (n := leg) h1 (by omega)
  obtain ⟨q, b, e1, e2⟩ := Ve hv hn hd h
  simp only [beq_eq_false_iff_ne.2 c, cond_false, e1, Option.bind_some, hx, Option.map_some]
  rcases e2 with ⟨rfl, e2 | ⟨y, e2, e3⟩⟩ | ⟨rfl, e2, e3, e4⟩
  .rw [e2]; rfl
  .rw [e2]
   simp only [Bool.not_false, cond_true, Option.bind_some, Option.getD_some, ZP, if_pos e3]
  rw [e2]
  simp only [Bool.not_true, cond_false, Option.bind_some, Option.getD_some, ZP, if_neg (show ¬ q.fin < 0 by omega), GK hn, P5 hn]
  rw [B1 (n := 1 - q.fin) (by omega) (by omega)]
  cases x.turn with
  | false => rfl
  | true =>
   simp only [cond_true, if_true]
   by_cases k : Af p q.elem = 1
   .simp only [if_pos k, k]; rfl
   have hb : (Af p q.elem != 1) = true := bne_iff_ne.2 k
   simp only [if_neg k, hb]; rfl
end
end Go.E
/- Plain Lean: by which roads a leg of a timetable can be gone: the program beside the document. No condition. -/
namespace Go.E
open Go
def G1 {α : Type} (f : α -> Bool) : Nat -> List α -> List Int
 | _, [] => []
 | i, a :: l => if f a = true then (i : Int) :: G1 f (i + 1) l else G1 f (i + 1) l
theorem Vf {α : Type} (f : α -> Bool) (a : α) : ∀ (l : List α) (i : Nat), G1 f i (l ++ [a]) = G1 f i l ++ (if f a = true then [((i + l.length : Nat) : Int)] else [])
 | [], i => by simp [G1]
 | b :: l, i => by
  have ih := Vf f a l (i + 1)
  simp only [List.cons_append, G1, ih, List.length_cons]
  rw [show i + 1 + l.length = i + (l.length + 1) by omega]
  split <;> simp
theorem Rc {α : Type} (f : α -> Bool) : ∀ (l : List α) (i : Nat), (G1 f i l).length <= l.length
 | [], i => by simp [G1]
 | b :: l, i => by
  have ih := Rc f l (i + 1)
  simp only [G1, List.length_cons]
  split
  .simp only [List.length_cons]; omega
  omega
theorem Vg {α : Type} {f : α -> Bool} {k : Int} : ∀ {l : List α} {i : Nat}, k ∈ G1 f i l ↔ ∃ (j : Nat) (a : α), k = ((i + j : Nat) : Int) /\ l[j]? = some a /\ f a = true
 | [], i => by simp [G1]
 | b :: l, i => by
  have ih := Vg (f := f) (k := k) (l := l) (i := i + 1)
  have e : k ∈ G1 f i (b :: l) ↔ (k = (i : Int) /\ f b = true) \/ k ∈ G1 f (i + 1) l := by
   simp only [G1]
   split
   .rename_i h; simp [h]
   rename_i h; simp [h]
  rw [e, ih]
  constructor
  .rintro (⟨h1, h2⟩ | ⟨j, a, h1, h2, h3⟩)
   .exact ⟨0, b, by simpa using h1, rfl, h2⟩
   exact ⟨j + 1, a, by rw [h1]; congr 1; omega, h2, h3⟩
  rintro ⟨j, a, h1, h2, h3⟩
  cases j with
  | zero => exact .inl ⟨by simpa using h1, by cases h2; exact h3⟩
  | succ j => exact .inr ⟨j, a, by rw [h1]; congr 1; omega, h2, h3⟩
theorem Vh {α β : Type} {l : List α} (f : α -> Bool) (hl : l.length <= 1000000) {step : Int × List Int -> Option ((Int × List Int) ⊕ β)} (fin : List Int -> β)
  (h0 : ∀ c, step ((l.length : Int), c) = some (.inr (fin c)))
  (h1 : ∀ (i : Nat) a c, l[i]? = some a -> c.length <= 1000000 -> step ((i : Int), c) = some (.inl (((i + 1 : Nat) : Int), if f a = true then c ++ [(i : Int)] else c))) : AO step (0, []) = some (fin (G1 f 0 l)) := by
 obtain ⟨b, hb, rfl⟩ := Bj (l := l) (step := step) (Post := fun b => b = fin (G1 f 0 l)) (fun i c => c = G1 f 0 (l.take i)) (fun c hc => ⟨_, h0 c, by rw [hc, List.take_length]⟩) (fun i a c ha hc => by
  have hi := BV ha
  have hlen : c.length <= 1000000 := by
   have := Rc f (l.take i) 0
   rw [hc]; rw [List.length_take] at this; omega
  refine .inr ⟨_, h1 i a c ha hlen, ?_⟩
  rw [List.take_add_one, ha, Option.toList_some, Vf, <- hc, List.length_take, Nat.min_eq_left (by omega)]
  split <;> simp) (c := []) rfl
 exact hb
theorem N5 {α β : Type} {l : List α} {step : Int -> Option (Int ⊕ β)} (bad : α -> Bool) (x : β) (fin : Option β) (h0 : step (l.length : Int) = fin.map .inr)
  (h1 : ∀ (i : Nat) a, l[i]? = some a -> step (i : Int) = bif bad a then some (.inr x) else some (.inl ((i + 1 : Nat) : Int))) : AO step 0 = if l.any bad = true then some x else fin := by
 refine Cc (γ := Unit) l (fun i _ => (i : Int)) (fun _ _ r => if r.any bad = true then some x else fin) (fun _ => ?_) (fun i _ a r ha hi => ?_) ()
 .rw [h0]; simp
 cases hb : bad a with
 | true => left; rw [h1 i a ha, hb]; simp [hb]
 | false => right; exact ⟨(), by rw [h1 i a ha, hb]; rfl, by simp [hb]⟩
section
variable {p : AK} {n : Az}
def Jr (r : Ag) : Int := ((r.steps.getLast?).map (·.elem)).getD 0
def Sa (r : Ag) (x : C4) : Bool := (r.fin == x.fin) && (if x.fin = 1 then r.to == x.to else Jr r == x.to)
def Ml (p : AK) (s : BM) (e : Int) : Bool := if Af p e = 4 then true else if Af p e = 1 then decide (AP (s.len + p.margin) <= Gz p e) else false
def Qi (p : AK) (s : BM) (x : C4) (frm stands : Int) (r : Ag) : Bool := (r.frm == frm) && (Sa r x && (!r.bare && (!decide (stands ∈ r.zone) && Ml p s (Jr r))))
def Ui (d : Ac) (run leg : Int) : Option (C4 × BM) := (AY d.runs run).bind fun r => (AY r.legs leg).bind fun x => (AY d.stock r.stock).map fun s => (x, s)
def DN (p : AK) (l : List Ag) (d : Ac) (run leg : Int) : List Int := if Er p d run leg < 0 then [] else match Ui d run leg with
 | none => []
 | some (x, s) => G1 (Qi p s x (Er p d run leg) (BO p d run leg)) 0 l
structure H6 (l : List Ag) : Prop where
 len : l.length <= 64
 steps : ∀ r ∈ l, 1 <= r.steps.length /\ r.steps.length <= 12
 zone : ∀ r ∈ l, r.zone.length <= 1000
theorem P6 {l : List Ai} (h1 : 1 <= l.length) (h2 : l.length <= 1000) : ∃ s, AY l (AP ((l.length : Int) - 1)) = some s /\ l.getLast? = some s := by
 rw [B1 (by omega) (by omega), show (l.length : Int) - 1 = ((l.length - 1 : Nat) : Int) by omega, Ak]
 exact ⟨l[l.length - 1]'(by omega), List.getElem?_eq_getElem _, by rw [List.getLast?_eq_getElem?]; exact List.getElem?_eq_getElem _⟩
theorem UP (hn : Bf p n) (hv : BP p) (s : BM) (e : Int) : Hd n s e = some (Ml p s e) := by
 unfold Hd Ml
 simp only [GK hn, Vc hn, SZ hn hv.few, Option.bind_some, Cx]
 split
 .rfl
 split <;> rfl
theorem Wj (p : AK) (s : BM) (e : Int) : Jc p s e = some (Ml p s e) := by
 unfold Jc Ml
 simp only [F4, N2, Option.bind_some, Cx]
 by_cases h1 : Af p e = 1
 .simp only [h1, show ¬ (1 : Int) = 4 by decide, if_false, if_true]
 simp only [if_neg h1]
 split <;> rfl
theorem Wk {r : Ag} (h1 : 1 <= r.steps.length) (h2 : r.steps.length <= 12) (x : C4) : Jn r x = some (Sa r x) := by
 obtain ⟨s, hs, hl⟩ := P6 h1 (by omega)
 have h0 : ((r.steps.length : Int) == 0) = false := beq_eq_false_iff_ne.2 (by omega)
 unfold Jn Sa Jr
 rw [hs, hl, h0]
 simp only [Jq, Cx, Option.bind_some, Option.map_some, Option.getD_some]
 by_cases c : r.fin = x.fin
 .by_cases f : x.fin = 1 <;> simp [c, f]
 simp only [if_neg c, cond_true, Option.bind_some, beq_eq_false_iff_ne.2 c, Bool.false_and]
theorem Ts {d : Ac} {run leg : Int} (h : 0 <= Er p d run leg) : ∃ r x q, Ih d run leg = some r /\ AY d.runs run = some r /\ AY r.legs leg = some x /\ Fe p r leg = some q /\ Er p d run leg = ZP p q x.turn /\ BO p d run leg = q.elem := by
 unfold Er at h ⊢
 unfold BO Lg
 cases h1 : Ih d run leg with
 | none => rw [h1] at h; simp at h
 | some r =>
  rw [h1] at h
  simp only [Option.bind_some] at h ⊢
  cases h2 : Fe p r leg with
  | none => rw [h2] at h; simp at h
  | some q =>
   rw [h2] at h
   simp only [Option.bind_some] at h ⊢
   cases h3 : AY r.legs leg with
   | none => rw [h3] at h; simp at h
   | some x => exact ⟨r, x, q, rfl, (Ek h1).1, h3, h2, rfl, rfl⟩
def JB (d : Ac) : Prop := ∀ (i : Nat) r, d.runs[i]? = some r -> 0 <= r.stock /\ r.stock < d.stock.length
theorem P7 (hv : BP p) (hn : Bf p n) {d : Ac} (hd : F3 d) (hx : JB d) {l : List Ag} (hl : H6 l) (run leg : Int) : EF n l d run leg = some (DN p l d run leg) := by
 have hll := hl.len
 unfold EF DN
 simp only [Wi hv hn hd, Ix hn hd, Option.bind_some]
 by_cases c : Er p d run leg < 0
 .simp only [c, decide_true, cond_true, if_true, Option.bind_some]
 obtain ⟨r, x, q, h1, h2, h3, -, -, -⟩ := Ts (p := p) (d := d) (run := run) (leg := leg) (by omega)
 obtain ⟨k1, k2⟩ := hx _ r (DM h2).1
 obtain ⟨s, hs⟩ := Gk (l := d.stock) (n := r.stock) k1 k2
 simp only [c, decide_false, cond_false, if_false, h2, Option.bind_some, show ¬ r.stock < 0 by omega, show ¬ (d.stock.length : Int) <= r.stock by omega, hs, Ui, h3, Option.map_some]
 exact Vh (l := l) (Qi p s x (Er p d run leg) (BO p d run leg)) (by omega) (fun c => c) (fun c => by simp only [H5, Bn, cond_false]) (fun i a c ha hc => by
  have hi := BV ha
  have hm := List.mem_of_getElem? ha
  obtain ⟨a1, a2⟩ := hl.steps a hm
  have a3 := hl.zone a hm
  obtain ⟨y, hy, hyl⟩ := P6 a1 (by omega)
  have el : y.elem = Jr a := by unfold Jr; rw [hyl]; rfl
  simp only [H5, BT ha, cond_true, Ak, ha, Option.bind_some, h2, h3, Wk a1 a2, MO a.zone (by omega), hy, UP hn hv, el, AX (show i < 1000000000 by omega), Bp (show c.length + [(i : Int)].length <= 4294967296 by simp; omega)]
  unfold Qi
  cases a.frm == Er p d run leg with
  | false => rfl
  | true => cases Sa a x with
   | false => rfl
   | true => cases a.bare with
    | true => rfl
    | false => cases decide (BO p d run leg ∈ a.zone) with
     | true => rfl
     | false => cases Ml p s (Jr a) <;> rfl)
theorem P8 (hv : BP p) {d : Ac} (hd : F3 d) (hx : JB d) {l : List Ag} (hl : H6 l) (run leg : Int) : Gw p l d run leg = some (DN p l d run leg) := by
 have hll := hl.len
 unfold Gw DN
 simp only [Wh hv hd, Option.bind_some]
 by_cases c : Er p d run leg < 0
 .simp only [c, decide_true, cond_true, if_true]
 obtain ⟨r, x, q, h1, h2, h3, -, -, -⟩ := Ts (p := p) (d := d) (run := run) (leg := leg) (by omega)
 obtain ⟨k1, k2⟩ := hx _ r (DM h2).1
 obtain ⟨s, hs⟩ := Gk (l := d.stock) (n := r.stock) k1 k2
 simp only [c, decide_false, cond_false, if_false, h2, Option.bind_some, hs, Ui, h3, Option.map_some]
 exact Vh (l := l) (Qi p s x (Er p d run leg) (BO p d run leg)) (by omega) (fun c => c) (fun c => by simp only [Hy, Bn, cond_false]) (fun i a c ha hc => by
  have hi := BV ha
  have hm := List.mem_of_getElem? ha
  obtain ⟨a1, a2⟩ := hl.steps a hm
  have a3 := hl.zone a hm
  obtain ⟨y, hy, hyl⟩ := P6 a1 (by omega)
  have el : y.elem = Jr a := by unfold Jr; rw [hyl]; rfl
  simp only [Hy, BT ha, cond_true, Ak, ha, Option.bind_some, h2, hs, Iw hv hd, ACt a.zone (by omega), hy, Wj, el, AX (show i < 1000000000 by omega), Bp (show c.length + [(i : Int)].length <= 4294967296 by simp; omega)]
  unfold Qi Sa
  simp only [bne]
  by_cases f1 : x.fin = 1
  .simp only [f1, beq_self_eq_true, cond_true, if_true, Bool.not_true, cond_false]
   cases a.frm == Er p d run leg with
   | false => rfl
   | true => cases a.fin == 1 with
    | false => rfl
    | true => cases a.to == x.to with
     | false => rfl
     | true => cases a.bare with
      | true => rfl
      | false => cases decide (BO p d run leg ∈ a.zone) with
       | true => rfl
       | false => cases Ml p s (Jr a) <;> rfl
  have f2 : (x.fin == 1) = false := beq_eq_false_iff_ne.2 f1
  simp only [f2, if_neg f1, cond_false, Bool.not_false, cond_true]
  cases a.frm == Er p d run leg with
  | false => rfl
  | true => cases a.fin == x.fin with
   | false => rfl
   | true => cases Jr a == x.to with
    | false => rfl
    | true => cases a.bare with
     | true => rfl
     | false => cases decide (BO p d run leg ∈ a.zone) with
      | true => rfl
      | false => cases Ml p s (Jr a) <;> rfl)
theorem Sb {l : List Ag} {d : Ac} {run leg k : Int} (h : k ∈ DN p l d run leg) : 0 <= Er p d run leg /\ ∃ (i : Nat) (a : Ag) (x : C4) (s : BM), k = (i : Int) /\ l[i]? = some a /\ Ui d run leg = some (x, s) /\ Qi p s x (Er p d run leg) (BO p d run leg) a = true := by
 unfold DN at h
 split at h
 .cases h
 rename_i c
 split at h
 .cases h
 rename_i x s e
 obtain ⟨j, a, h1, h2, h3⟩ := Vg.1 h
 exact ⟨by omega, j, a, x, s, by rw [h1]; simp, h2, e, h3⟩
theorem Oq {l : List Ag} {d : Ac} {run leg : Int} : (DN p l d run leg).length <= l.length := by
 unfold DN
 split
 .simp
 split
 .simp
 exact Rc _ _ _
end
end Go.E
/- Plain Lean: what is wrong with a timetable by itself: the program beside the document. No condition. -/
namespace Go.E
open Go
theorem ABL (s : ByteArray) (hs : s.size <= 1000) : ∃ b, CJ s = some b /\ Co s = some b := by
 obtain ⟨b, h1, h2⟩ := Sc s
 obtain ⟨c, h3, h4⟩ := HE s hs
 refine ⟨b, h1, ?_⟩
 cases b with
 | true => exact YL s (h2 rfl)
 | false => cases c with
  | false => exact h3
  | true =>
   have := Js s (h4 rfl)
   rw [h1] at this; cases this
noncomputable def Qj (s : ByteArray) : Bool := (CJ s).getD false
theorem Vi (s : ByteArray) (hs : s.size <= 1000) : Co s = some (Qj s) := by
 obtain ⟨b, h1, h2⟩ := ABL s hs
 unfold Qj; rw [h1, h2]; rfl
def El (x lo hi : Int) : Bool := decide (lo <= x) && decide (x <= hi)
theorem ZS (a b : Bool) : ((bif a then some b else some false : Option Bool)) = some (a && b) := by cases a <;> rfl
theorem Wl (x lo hi : Int) : Dh x lo hi = some (El x lo hi) := by unfold Dh; rw [ZS]; rfl
theorem NH (x lo hi : Int) : Cg x lo hi = some (El x lo hi) := by unfold Cg; rw [ZS]; rfl
noncomputable def P9 (s : BM) : Bool := Qj s.name && (El s.len 1 4000 && (El s.top 1 60 && (El s.acc 1 10 && El s.brake 1 10)))
theorem YM (s : BM) (hs : s.name.size <= 1000) : K3 s = some (P9 s) := by
 unfold K3 P9
 simp only [Vi _ hs, Wl, Option.bind_some]
 cases Qj s.name <;> cases El s.len 1 4000 <;> cases El s.top 1 60 <;> cases El s.acc 1 10 <;> rfl
def NI {α : Type} (f : α -> α -> Bool) : List α -> List α -> Bool
 | _, [] => false
 | pre, a :: l => pre.any (fun b => f b a) || NI f (pre ++ [a]) l
theorem EI {α : Type} {l : List α} {i : Nat} {a : α} (h : l[i]? = some a) : l.take (i + 1) = l.take i ++ [a] := by
 rw [List.take_add_one, h]; rfl
def H7 (a b : BM) : Bool := a.name.toList == b.name.toList
def Ot (a b : Dg) : Bool := a.name.toList == b.name.toList
noncomputable def K6 (l : List BM) : Int := if 4 < l.length then 3 else if l.any (fun s => !P9 s) = true then 1 else if NI H7 [] l = true then 4 else 0
theorem ACE {α : Type} {l : List α} {i : Nat} (h : i <= l.length) : Jy l 0 (i : Int) = some (l.take i) := by
 unfold Jy
 rw [if_pos ⟨by omega, by omega, by omega⟩]
 simp
theorem ACF (l : List BM) (hl : l.length <= 1000) {i : Nat} {a : BM} (ha : l[i]? = some a) : ∃ t, JY l a.name = some t /\ ((t != (i : Int)) = (l.take i).any fun b => H7 b a) := by
 unfold JY
 rw [Sd (l := l) (fun _ b => H7 b a) (fun i => (i : Int)) (some (-1)) (by simp [Ir]) (fun k b hb => by
  have := BV hb
  simp only [Ir, BT hb, cond_true, Ak, hb, Option.bind_some, AX (show k < 1000000000 by omega)]
  show _ = if H7 b a = true then _ else _
  unfold H7
  cases b.name.toList == a.name.toList <;> rfl)]
 have hi := BV ha
 have self : H7 a a = true := by unfold H7; simp
 cases h : Em (fun _ b => H7 b a) 0 l with
 | none =>
  have := (NJ l 0).1 h i a ha
  rw [self] at this; cases this
 | some j =>
  obtain ⟨k, b, h1, h2, h3, h4⟩ := (NK l 0 j).1 h
  refine ⟨(j : Int), rfl, ?_⟩
  have hjk : j = k := by omega
  subst hjk
  by_cases e : j = i
  .subst e
   have : (l.take j).any (fun b => H7 b a) = false := by
    rw [List.any_eq_false]
    intro c hc
    obtain ⟨m, hm⟩ := List.mem_iff_getElem?.1 hc
    have hml : m < j := by
     have := BV hm; rw [List.length_take] at this; omega
    rw [List.getElem?_take_of_lt hml] at hm
    have := h4 m c hml hm
    simp [this]
   rw [this]; simp
  have hlt : j < i := by
   by_cases hl : i < j
   .have := h4 i a hl ha
    rw [self] at this; cases this
   omega
  have : (l.take i).any (fun b => H7 b a) = true := List.any_eq_true.2 ⟨b, List.mem_of_getElem? (i := j) (by rw [List.getElem?_take_of_lt hlt]; exact h2), h3⟩
  rw [this, bne_iff_ne]
  omega
theorem Vj (l : List BM) (hn : ∀ (i : Nat) s, l[i]? = some s -> s.name.size <= 1000) : IX l = some (K6 l) := by
 unfold IX K6
 by_cases h : 4 < l.length
 .simp only [show (4 : Int) < (l.length : Int) by omega, decide_true, cond_true, h, if_true]
 simp only [show ¬ (4 : Int) < (l.length : Int) by omega, decide_false, cond_false, h, if_false]
 rw [N5 (l := l) (fun s => !P9 s) 1 (some (if NI H7 [] l = true then 4 else 0)) (by
  simp only [Ht, Bn, cond_false]
  have := Cc (γ := Unit) l (fun k _ => (k : Int)) (fun i _ r => some (if NI H7 (l.take i) r = true then (4 : Int) else 0)) (step := EN l) (fun _ => by simp only [EN, Bn, cond_false]; rfl) (fun i _ a r ha hi => by
   obtain ⟨t, h1, h2⟩ := ACF l (by omega) ha
   simp only [EN, BT ha, cond_true, Ak, ha, Option.bind_some, h1, h2, NI, <- EI ha]
   cases (l.take i).any (fun b => H7 b a) with
   | true => left; rfl
   | false => right; exact ⟨(), by simp [AX (show i < 1000000000 by omega)], by simp⟩) ()
  rw [show AO (EN l) 0 = _ from this]; rfl) (fun i a ha => by
  have := BV ha
  simp only [Ht, BT ha, cond_true, Ak, ha, Option.bind_some, YM a (hn i a ha), AX (show i < 1000000000 by omega)])]
 split <;> rfl
def YN (p : AK) (s : BM) : Bool := decide (p.top < s.top) || decide (s.brake < p.brake)
noncomputable def Jt (p : AK) (l : List BM) : Int := if K6 l = 0 then (if l.any (YN p) = true then 9 else 0) else K6 l
theorem ACG (a b : Bool) : ((bif a then some true else some b : Option Bool)) = some (a || b) := by cases a <;> rfl
theorem YO {l : List BM} (h : K6 l = 0) : l.length <= 4 := by
 unfold K6 at h
 split at h
 .omega
 omega
theorem Vk (p : AK) (l : List BM) (hn : ∀ (i : Nat) s, l[i]? = some s -> s.name.size <= 1000) : IY p l = some (Jt p l) := by
 unfold IY Jt
 simp only [Vj l hn, Option.bind_some, Jq]
 by_cases h : K6 l = 0
 .have := YO h
  rw [if_pos h, if_pos h]
  rw [N5 (l := l) (YN p) 9 (some 0) (by simp [Hu]) (fun i a ha => by
   have := BV ha
   simp only [Hu, BT ha, cond_true, Ak, ha, Option.bind_some, ACG, YN, AX (show i < 1000000000 by omega)])]
  split <;> rfl
 rw [if_neg h, if_neg h]
theorem ZT {p : AK} {l : List BM} (h : Jt p l = 0) : ∀ s ∈ l, P9 s = true := by
 unfold Jt at h
 split at h
 .rename_i hw
  unfold K6 at hw
  split at hw
  .cases hw
  split at hw
  .cases hw
  rename_i hm
  intro s hs
  have : l.any (fun s => !P9 s) = false := by simpa using hm
  have := List.any_eq_false.1 this s hs
  have : P9 s = true := by simpa using this
  exact this
 rename_i hw; exact absurd h hw
end Go.E
/- Plain Lean: what is wrong with a timetable on a plan: the program beside the document. No condition. -/
namespace Go.E
open Go
def QA (p : AK) (x : C4) : Bool := if x.fin = 1 then El x.to 0 ((p.signals.length : Int) - 1) else if x.fin = 2 then Af p x.to == 4 else if x.fin = 3 then Af p x.to == 1 else false
def Mm (p : AK) : Int -> List C4 -> Bool
 | _, [] => true
 | c, x :: l => (El x.at_ c 2000 && QA p x) && Mm p x.at_ l
theorem AAP (p : AK) (hf : Ei p) (l : List C4) (hl : l.length <= 1000) : JZ p l = some (Mm p 0 l) := by
 have q := hf.signals
 unfold JZ
 have key := Cc l (fun i (c : Int) => (c, (i : Int))) (fun i c r => some (Mm p c r)) (step := Ge p l) (fun c => ?_) (fun i c a r ha hi => ?_) 0
 .exact key
 .simp only [Ge, Bn, cond_false]; rfl
 simp only [Ge, BT ha, cond_true, Ak, ha, Option.bind_some, NH, F4, Cx, Jq, Mm, QA, B1 (n := (p.signals.length : Int) - 1) (by omega) (by omega)]
 cases h1 : El a.at_ c 2000 with
 | false => left; simp [Eb]
 | true =>
  have w : AP ((i : Int) + 1) = ((i + 1 : Nat) : Int) := AX (by omega)
  by_cases f1 : a.fin = 1
  .simp only [if_pos f1]
   cases h2 : El a.to 0 ((p.signals.length : Int) - 1) with
   | false => left; simp [Eb]
   | true => right; exact ⟨a.at_, by simp [Eb, w], by simp⟩
  simp only [if_neg f1]
  by_cases f2 : a.fin = 2
  .simp only [if_pos f2]
   by_cases k : Af p a.to = 4
   .right; exact ⟨a.at_, by simp [Eb, w, k], by simp [k]⟩
   left; simp [Eb, k]
  simp only [if_neg f2]
  by_cases f3 : a.fin = 3
  .simp only [if_pos f3]
   by_cases k : Af p a.to = 1
   .right; exact ⟨a.at_, by simp [Eb, w, k], by simp [k]⟩
   left; simp [Eb, k]
  left; simp [Eb, f3]
noncomputable def Rd (p : AK) (d : Ac) (r : Dg) : Bool := Qj r.name && (El r.stock 0 ((d.stock.length : Int) - 1) && (El r.frm 0 ((p.signals.length : Int) - 1) && (El r.left 0 4000 && Mm p 0 r.legs)))
def Se (r : Dg) : Bool := decide (12 < (r.legs.length : Int))
noncomputable def N6 (p : AK) (d : Ac) : Int := if 8 < d.runs.length then 3 else if d.runs.any Se = true then 3 else if Jt p d.stock = 0 then (if El d.begin 0 86399 = true then (if d.runs.any (fun r => !Rd p d r) = true then 1 else if NI Ot [] d.runs = true then 4 else 0) else 1) else Jt p d.stock
theorem Vl (p : AK) (hf : Ei p) {d : Ac} (hd : F3 d) : IZ p d = some (N6 p d) := by
 have d1 := hd.runs; have d2 := hd.stock; have q := hf.signals
 unfold IZ N6
 by_cases c1 : 8 < d.runs.length
 .simp only [show (8 : Int) < (d.runs.length : Int) by omega, decide_true, cond_true, c1, if_true]
 simp only [show ¬ (8 : Int) < (d.runs.length : Int) by omega, decide_false, cond_false, c1, if_false]
 refine N5 (l := d.runs) Se 3 (some (if Jt p d.stock = 0 then (if El d.begin 0 86399 = true then (if d.runs.any (fun r => !Rd p d r) = true then 1 else if NI Ot [] d.runs = true then 4 else 0) else 1) else Jt p d.stock)) ?_ (fun i a ha => by
  have := BV ha
  simp only [Hx, BT ha, cond_true, Ak, ha, Option.bind_some, Se, AX (show i < 1000000000 by omega)]) |>.trans ?_
 .simp only [Hx, Bn, cond_false, Vk p d.stock (fun i s hs => by have := hd.name i s hs; omega), Option.bind_some, Jq, NH]
  by_cases c2 : Jt p d.stock = 0
  .rw [if_pos c2, if_pos c2]
   cases El d.begin 0 86399 with
   | false => rfl
   | true =>
    simp only [Bool.not_true, cond_false, if_true]
    rw [N5 (l := d.runs) (fun r => !Rd p d r) 1 (some (if NI Ot [] d.runs = true then 4 else 0)) (by
     simp only [Hw, Bn, cond_false]
     have := Cc (γ := Unit) d.runs (fun k _ => (k : Int)) (fun i _ r => some (if NI Ot (d.runs.take i) r = true then (4 : Int) else 0)) (step := EO d) (fun _ => by simp only [EO, Bn, cond_false]; rfl) (fun i _ a r ha hi => by
      have hlen : (d.runs.take i).length = i := by rw [List.length_take]; omega
      simp only [EO, BT ha, cond_true, Ak, ha, Option.bind_some, ACE (show i <= d.runs.length by omega)]
      rw [N5 (l := d.runs.take i) (fun b => Ot b a) (.inr 4) (some (.inl ((i + 1 : Nat) : Int))) (by simp only [Hv, Bn, cond_false, AX (show i < 1000000000 by omega)]; rfl) (fun k b hb => by
       have := BV hb
       simp only [Hv, BT hb, cond_true, Ak, hb, Option.bind_some, Ot, AX (show k < 1000000000 by omega)]
       rw [BEq.comm (a := a.name.toList)])]
      simp only [NI, <- EI ha]
      cases (d.runs.take i).any (fun b => Ot b a) with
      | true => left; rfl
      | false => right; exact ⟨(), by simp, by simp⟩) ()
     rw [show AO (EO d) 0 = _ from this]; rfl) (fun i a ha => by
     have := BV ha
     obtain ⟨hal, han⟩ := hd.legs i a ha
     simp only [Hw, BT ha, cond_true, Ak, ha, Option.bind_some, Vi a.name (show a.name.size <= 1000 by omega), NH, AAP p hf a.legs (by omega), Rd, AX (show i < 1000000000 by omega), B1 (n := (p.signals.length : Int) - 1) (by omega) (by omega), B1 (n := (d.stock.length : Int) - 1) (by omega) (by omega)]
     cases Qj a.name <;> cases El a.stock 0 ((d.stock.length : Int) - 1) <;> cases El a.frm 0 ((p.signals.length : Int) - 1) <;> cases El a.left 0 4000 <;> rfl)]
    split <;> rfl
  rw [if_neg c2, if_neg c2]
 split <;> rfl
structure QB (p : AK) (d : Ac) : Prop where
 ix : JB d
 stock : ∀ s ∈ d.stock, P9 s = true
 runs : d.runs.length <= 8
 legs : ∀ (i : Nat) r, d.runs[i]? = some r -> r.legs.length <= 12
 frm : ∀ (i : Nat) r, d.runs[i]? = some r -> 0 <= r.frm /\ r.frm < p.signals.length
 leads : ∀ (i : Nat) r, d.runs[i]? = some r -> ∀ x ∈ r.legs, QA p x = true
theorem RA {p : AK} : ∀ {l : List C4} {c : Int}, Mm p c l = true -> ∀ x ∈ l, QA p x = true
 | [], _, _, x, hx => by cases hx
 | y :: l, c, h, x, hx => by
  unfold Mm at h
  simp only [Bool.and_eq_true] at h
  rcases List.mem_cons.1 hx with rfl | hx
  .exact h.1.2
  exact RA h.2 x hx
theorem ZU {p : AK} {d : Ac} (h : N6 p d = 0) : QB p d := by
 unfold N6 at h
 split at h
 .cases h
 rename_i c1
 split at h
 .cases h
 rename_i c2
 split at h
 .rename_i c3
  split at h
  .split at h
   .cases h
   rename_i c4
   have c4' : d.runs.any (fun r => !Rd p d r) = false := by simpa using c4
   have hb : ∀ r ∈ d.runs, Rd p d r = true := fun r hr => by simpa using List.any_eq_false.1 c4' r hr
   have hq : ∀ (i : Nat) r, d.runs[i]? = some r -> (0 <= r.stock /\ r.stock <= (d.stock.length : Int) - 1) /\ (0 <= r.frm /\ r.frm <= (p.signals.length : Int) - 1) /\ Mm p 0 r.legs = true := fun i r hr => by
    have := hb r (List.mem_of_getElem? hr)
    unfold Rd El at this
    simp only [Bool.and_eq_true, decide_eq_true_eq] at this
    exact ⟨this.2.1, this.2.2.1, this.2.2.2.2⟩
   refine ⟨fun i r hr => by have := (hq i r hr).1; omega, ZT c3, by omega, fun i r hr => ?_, fun i r hr => by have := (hq i r hr).2.1; omega, fun i r hr => RA (hq i r hr).2.2⟩
   have c2' : d.runs.any Se = false := by simpa using c2
   have := List.any_eq_false.1 c2' r (List.mem_of_getElem? hr)
   unfold Se at this
   simp only [decide_eq_true_eq] at this
   omega
  cases h
 rename_i c3; exact absurd h c3
end Go.E
/- Plain Lean: which timetables can be gone: the program beside the document. No condition. -/
namespace Go.E
open Go
section
variable {p : AK} {n : Az}
end
end Go.E
/- Plain Lean: what a net says of lines. No condition. -/
namespace Go.E
open Go
def YP (ls : List CG) (m : List (Int × Bo)) : Prop := ∀ e, (Am m e = none /\ ∀ l ∈ ls, e ∉ l.elems) \/ ∃ a l, Am m e = some a /\ AY ls a.a0 = some l /\ e ∈ l.elems
def LO (p : AK) (n : Az) : Prop := YP p.lines n.line
theorem YQ (p y15 : AK) (hf : Ei p) (s58 : Int × List (AI × AI)) (s140 : Int × List (AI × Int)) : ∃ a b, AO (Ch p y15 s58 s140) (0, [], []) = some (some ⟨y15, s58.2, s140.2, a, b⟩, 0) /\ YP p.lines a := by
 have q4 := hf.lines
 obtain ⟨r, hr, a, b, rfl, hL⟩ : ∃ r, AO (Ch p y15 s58 s140) (0, [], []) = some r /\ ∃ a b, r = (some ⟨y15, s58.2, s140.2, a, b⟩, 0) /\ YP p.lines a := by
  refine Bj (l := p.lines) (fun i c => ∀ e, (Am c.1 e = none /\ ∀ l ∈ p.lines.take i, e ∉ l.elems) \/ ∃ a l, Am c.1 e = some a /\ AY p.lines a.a0 = some l /\ e ∈ l.elems) (fun c hc => ⟨_, by simp only [Ch, Bn, cond_false], c.1, c.2, rfl, fun e => by
   have := hc e; rw [List.take_length] at this; exact this⟩) (fun i l c h hc => ?_) (c := (([], []) : List (Int × Bo) × List (Int × Int))) (fun e => .inl ⟨rfl, by simp⟩)
  have := BV h
  have hal := (hf.line i l h).1
  obtain ⟨t, ht⟩ : ∃ t : Int, ((bif decide (1 < (l.elems.length : Int)) then (AY l.elems 0).bind fun y1186 => ((bif (Am s58.2 (⟨y1186, 0⟩ : AI)).isSome then (AY l.elems 1).bind fun y1195 => some ((((Am s58.2 (⟨y1186, 0⟩ : AI)).getD (⟨0, 0⟩ : AI)).elem) == y1195) else some false : Option (Bool))).bind fun (t1192 : Bool) => bif t1192 then some 1 else some 0 else some 0 : Option (Int))) = some t := by
   match hl : l.elems with
   | [] => exact ⟨0, by simp⟩
   | [a] => exact ⟨0, by simp⟩
   | a :: b :: r =>
    have hd : decide (1 < ((a :: b :: r).length : Int)) = true := by simp; omega
    have i0 : AY (a :: b :: r) 0 = some a := rfl
    have i1 : AY (a :: b :: r) 1 = some b := rfl
    simp only [hd, cond_true, i0, i1, Option.bind_some]
    cases (Am s58.2 (⟨a, 0⟩ : AI)).isSome with
    | false => exact ⟨0, rfl⟩
    | true =>
     simp only [cond_true, Option.bind_some]
     cases ((Am s58.2 (⟨a, 0⟩ : AI)).getD (⟨0, 0⟩ : AI)).elem == b with
     | false => exact ⟨0, rfl⟩
     | true => exact ⟨1, rfl⟩
  refine .inr ?_
  simp only [Ch, BT h, cond_true, Ak, h, Option.bind_some, ht]
  obtain ⟨r, hr, c', rfl, hc'⟩ : ∃ r, AO (Dj s58 ((i : Int), c) l) (t, 0, c.1, c.2) = some r /\ ∃ c' : List (Int × Bo) × List (Int × Int), r = .inl (((i + 1 : Nat) : Int), c') /\
    ∀ e, Am c'.1 e = (if e ∈ l.elems then Am c'.1 e else Am c.1 e) /\ (e ∈ l.elems -> ∃ a, Am c'.1 e = some a /\ a.a0 = (i : Int)) := by
   refine EU (fun k s => s.2.1 = (k : Int) /\ k <= l.elems.length /\ ∀ e, Am s.2.2.1 e = (if e ∈ l.elems.take k then Am s.2.2.1 e else Am c.1 e) /\ (e ∈ l.elems.take k -> ∃ a, Am s.2.2.1 e = some a /\ a.a0 = (i : Int))) l.elems.length ?_ ⟨rfl, Nat.zero_le _, fun e => ⟨by simp, by simp⟩⟩
   rintro k ⟨x, j, d1, d2⟩ ⟨hj, hk, hd⟩
   simp only at hj hd
   subst hj
   by_cases he : k = l.elems.length
   .subst he
    rw [List.take_length] at hd
    exact .inl ⟨.inl (((i + 1 : Nat) : Int), d1, d2), by simp only [Dj, Bn, cond_false, AX (show i < 1000000000 by omega)], (d1, d2), rfl, hd⟩
   have ha : l.elems[k]? = some (l.elems[k]'(by omega)) := List.getElem?_eq_getElem _
   refine .inr ⟨by omega, (((Am s58.2 (⟨l.elems[k]'(by omega), AP (1 - x)⟩ : AI)).getD (⟨0, 0⟩ : AI)).fin, ((k + 1 : Nat) : Int), A1 (l.elems[k]'(by omega)) (⟨(i : Int), (k : Int)⟩ : Bo) d1, A1 (l.elems[k]'(by omega)) x d2), by simp only [Dj, BT ha, cond_true, Ak, ha, Option.bind_some, AX (show k < 1000000000 by omega)], rfl, by omega, fun e => ?_⟩
   generalize l.elems[k]'(by omega) = y at ha
   dsimp only
   rw [List.take_add_one, ha, Fa]
   by_cases hy : e = y
   .subst hy
    simp
   have hm : e ∈ l.elems.take k ++ (some y).toList ↔ e ∈ l.elems.take k := by simp [hy]
   rw [if_neg hy]
   simp only [hm]
   exact hd e
  refine ⟨c', hr, fun e => ?_⟩
  obtain ⟨g1, g2⟩ := hc' e
  by_cases hm : e ∈ l.elems
  .obtain ⟨a, h1, h2⟩ := g2 hm
   exact .inr ⟨a, l, h1, by rw [h2, Ak]; exact h, hm⟩
  rw [if_neg hm] at g1
  rcases hc e with ⟨h1, h2⟩ | ⟨a, l', h1, h2, h3⟩
  .refine .inl ⟨by rw [g1]; exact h1, fun q hq => ?_⟩
   rw [EI h] at hq
   rcases List.mem_append.1 hq with hq | hq
   .exact h2 q hq
   rw [List.mem_singleton.1 hq]; exact hm
  exact .inr ⟨a, l', by rw [g1]; exact h1, h2, h3⟩
 exact ⟨a, b, hr, hL⟩
theorem ABM (p : AK) (hv : BP p) : ∃ n, Cp p = some (some n, 0) /\ LO p n := by
 have q2 := hv.few.joins; have q3 := hv.few.signals
 unfold Cp
 simp only [PH p hv, Option.bind_some, bne_self_eq_false, cond_false, N4 p hv.few]
 have l2 : ∀ s58 : Int × List (AI × AI), ∃ r, AO (Dk p p s58) (0, []) = some r /\ ∃ n, r = (some n, 0) /\ LO p n := by
  intro s58
  refine Bj (l := p.signals) (fun i c => True) (fun c _ => ?_) (fun i s c h _ => ?_) (c := []) trivial
  .obtain ⟨a, b, hr, hL⟩ := YQ p p hv.few s58 ((p.signals.length : Int), c)
   exact ⟨_, by simp only [Dk, Bn, cond_false, hr]; rfl, ⟨p, s58.2, c, a, b⟩, rfl, hL⟩
  have := BV h
  exact .inr ⟨A1 s.at_ (i : Int) c, by simp only [Dk, BT h, cond_true, Ak, h, Option.bind_some, AX (show i < 1000000000 by omega)], trivial⟩
 obtain ⟨r, hr, n, rfl, hn⟩ : ∃ r, AO (Dl p p) (0, []) = some r /\ ∃ n, r = (some n, 0) /\ LO p n := by
  refine Bj (l := p.joins) (fun i c => True) (fun c _ => ?_) (fun i j c h _ => ?_) (c := []) trivial
  .obtain ⟨r, hr, h⟩ := l2 ((p.joins.length : Int), c)
   exact ⟨r, by simp only [Dl, Bn, cond_false, hr]; rfl, h⟩
  have := BV h
  exact .inr ⟨A1 j.b j.a (A1 j.a j.b c), by simp only [Dl, BT h, cond_true, Ak, h, Option.bind_some, AX (show i < 1000000000 by omega)], trivial⟩
 exact ⟨n, hr, hn⟩
theorem ZV {p : AK} {n : Az} (hv : BP p) (hN : Cp p = some (some n, 0)) : LO p n := by
 obtain ⟨m, h1, h2⟩ := ABM p hv
 rw [hN] at h1
 cases h1
 exact h2
theorem YR {p : AK} {n : Az} (hL : LO p n) (e : Int) : ∃ v, DQ n e = some v /\ ((v.1 = -1 /\ ∀ l ∈ p.lines, e ∉ l.elems) \/ ∃ l, 0 <= v.1 /\ v.1 < p.lines.length /\ AY p.lines v.1 = some l /\ e ∈ l.elems) := by
 unfold DQ
 rcases hL e with ⟨h1, h2⟩ | ⟨a, l, h1, h2, h3⟩
 .rw [h1]; exact ⟨(-1, -1), rfl, .inl ⟨rfl, h2⟩⟩
 rw [h1]
 have := N0 h2
 exact ⟨(a.a0, a.a1), rfl, .inr ⟨l, this.1, this.2, h2, h3⟩⟩
end Go.E
/- Plain Lean: what a leg wants free, as the document says it. No condition. -/
namespace Go.E
open Go
def FP (l : List Ag) (k : Int) : List Int := match AY l k with
 | none => []
 | some r => r.steps.map (·.elem) ++ r.zone
def Hk (l : List Int) (x : Int) : Bool := l.any fun y => y == x
theorem KF {l : List Int} {x : Int} : Hk l x = true ↔ x ∈ l := by
 unfold Hk
 rw [List.any_eq_true]
 constructor
 .rintro ⟨y, h1, h2⟩; rw [beq_iff_eq] at h2; exact h2 ▸ h1
 intro h; exact ⟨x, h, beq_self_eq_true x⟩
def eB (l : List Ag) (ks : List Int) (x : Int) : Bool := Hk (ks.flatMap (FP l)) x
def cB (p : AK) (l : List Ag) (ks : List Int) (x : Int) : Bool := eB l ks x || p.lines.any fun L => Hk L.elems x && L.elems.any (eB l ks)
def Ka (p : AK) (l : List Ag) (ks : List Int) (st : Int) : List Int := ((List.range 40).filter fun e : Nat => cB p l ks (e : Int) && (Af p (e : Int) != 4 && ((e : Int) != st))).map fun e : Nat => (e : Int)
def Hl (p : AK) (e : Int) : Int := if Af p e = 4 then -1 else e
def Mn (p : AK) (l : List Ag) (d : Ac) (run leg : Int) : DH := ⟨Ka p l (DN p l d run leg) (BO p d run leg), Hl p (BO p d run (leg + 1))⟩
structure KG (p : AK) (l : List Ag) : Prop where
 steps : ∀ r ∈ l, ∀ s ∈ r.steps, 0 <= s.elem /\ s.elem < 40
 zone : ∀ r ∈ l, ∀ e ∈ r.zone, 0 <= e /\ e < 40
def Es (a : Bk 40 Bool) : List Int -> Bk 40 Bool
 | [] => a
 | e :: r => Es (IC a e true) r
theorem Tt (a : Bk 40 Bool) : ∀ (l m : List Int), Es a (l ++ m) = Es (Es a l) m
 | [], m => rfl
 | e :: l, m => by intros; exact markA_app' l m (IC a e true)
where markA_app' : ∀ (l m : List Int) (a : Bk 40 Bool), Es a (l ++ m) = Es (Es a l) m
 | [], m, a => rfl
 | e :: l, m, a => markA_app' l m (IC a e true)
theorem Vm (a : Bk 40 Bool) {e : Int} (h0 : 0 <= e) (h1 : e < 40) (b : Bool) (x : Nat) (hx : x < 40) : (IC a e b).1[x]? = if e = (x : Int) then some b else a.1[x]? := by
 unfold IC A5
 simp only
 rw [List.getElem?_set]
 have hl := a.2
 by_cases h : e = (x : Int)
 .rw [if_pos h, if_pos (by omega), if_pos (by omega)]
 rw [if_neg h, if_neg (by omega)]
theorem QC : ∀ (l : List Int) (a : Bk 40 Bool), (∀ e ∈ l, 0 <= e /\ e < 40) -> ∀ (x : Nat) (b : Bool), x < 40 -> a.1[x]? = some b -> (Es a l).1[x]? = some (b || Hk l (x : Int))
 | [], a, _, x, b, hx, hb => by simp only [Es, Hk, List.any_nil, Bool.or_false, hb]
 | e :: l, a, h, x, b, hx, hb => by
  obtain ⟨h0, h1⟩ := h e (by simp)
  have hs := Vm a h0 h1 true x hx
  unfold Es
  by_cases c : e = (x : Int)
  .rw [if_pos c] at hs
   rw [QC l _ (fun y hy => h y (by simp [hy])) x true hx hs]
   simp [Hk, c]
  rw [if_neg c, hb] at hs
  rw [QC l _ (fun y hy => h y (by simp [hy])) x b hx hs]
  have : (e == (x : Int)) = false := beq_eq_false_iff_ne.2 c
  simp [Hk, this]
theorem Qk (a : Bk 40 Bool) {e : Int} (h0 : 0 <= e) (h1 : e < 40) : ∃ b, AY a.1 e = some b := Gk h0 (by rw [a.2]; omega)
section
variable {p : AK} {n : Az}
theorem QD (hv : BP p) {L : CG} (hL : L ∈ p.lines) {e : Int} (he : e ∈ L.elems) : 0 <= e /\ e < 40 := by
 obtain ⟨i, hi⟩ := List.mem_iff_getElem?.1 hL
 obtain ⟨j, hj⟩ := List.mem_iff_getElem?.1 he
 have hk := (hv.line.line i L hi).track j e hj
 have := Ju (p := p) (e := e) (by omega)
 have hne := hv.ne
 omega
theorem Tu : ∀ {ls : List CG}, (ls.flatMap (·.elems)).Nodup -> ∀ {L M : CG} {e : Int}, L ∈ ls -> M ∈ ls -> e ∈ L.elems -> e ∈ M.elems -> L = M
 | [], _, L, M, e, h, _, _, _ => by cases h
 | A :: ls, hn, L, M, e, hL, hM, eL, eM => by
  rw [List.flatMap_cons, List.nodup_append] at hn
  obtain ⟨n1, n2, n3⟩ := hn
  rcases List.mem_cons.1 hL with rfl | k1
  .rcases List.mem_cons.1 hM with rfl | k2
   .rfl
   exact absurd rfl (n3 e eL e (List.mem_flatMap.2 ⟨M, k2, eM⟩))
  rcases List.mem_cons.1 hM with rfl | k2
  .exact absurd rfl (n3 e eM e (List.mem_flatMap.2 ⟨L, k1, eL⟩))
  exact Tu n2 k1 k2 eL eM
theorem Wm (hv : BP p) {k : Nat} {L : CG} (hk : p.lines[k]? = some L) {e : Int} (he : e ∈ L.elems) : ∀ M ∈ p.lines.take k, e ∉ M.elems := by
 intro M hM hm
 have hon := hv.line.once
 have hlt := BV hk
 rw [<- List.take_append_drop k p.lines, List.flatMap_append, List.nodup_append] at hon
 have hLd : L ∈ p.lines.drop k := by
  have : (p.lines.drop k)[0]? = some L := by rw [List.getElem?_drop]; simpa using hk
  exact List.mem_of_getElem? this
 exact hon.2.2 e (List.mem_flatMap.2 ⟨M, hM, hm⟩) e (List.mem_flatMap.2 ⟨L, hLd, he⟩) rfl
theorem ABN (hv : BP p) {d : Ac} (hd : F3 d) (run leg : Int) (hw : AP (leg + 1) = leg + 1) (s : Int) (arr : Bk 40 Bool) : AO (E3 p d run leg (s, arr)) (0, []) =
  some ⟨((List.range 40).filter fun e : Nat => (arr.1[e]?).getD false && (Af p (e : Int) != 4 && ((e : Int) != BO p d run leg))).map fun e : Nat => (e : Int), Hl p (BO p d run (leg + 1))⟩ := by
 obtain ⟨b, hb, rfl⟩ := EU (step := E3 p d run leg (s, arr)) (Post := fun b => b = (⟨((List.range 40).filter fun e : Nat => (arr.1[e]?).getD false && (Af p (e : Int) != 4 && ((e : Int) != BO p d run leg))).map fun e : Nat => (e : Int), Hl p (BO p d run (leg + 1))⟩ : DH))
  (fun k s => s.1 = (k : Int) /\ k <= 40 /\ s.2 = ((List.range k).filter fun e : Nat => (arr.1[e]?).getD false && (Af p (e : Int) != 4 && ((e : Int) != BO p d run leg))).map fun e : Nat => (e : Int)) 40 (s := (0, [])) (by
  rintro k ⟨i, c⟩ ⟨e, hk, hc⟩
  simp only at e hc
  subst e
  by_cases h40 : k = 40
  .subst h40
   left
   refine ⟨_, ?_, rfl⟩
   simp only [E3, show decide (((40 : Nat) : Int) < 40) = false by decide, cond_false, Iw hv hd, hw, F4, Option.bind_some, Jq, Hl, hc]
   split <;> rfl
  right
  have hk' : k < 40 := by omega
  obtain ⟨b, hb⟩ : ∃ b, arr.1[k]? = some b := ⟨_, List.getElem?_eq_getElem (by rw [arr.2]; exact hk')⟩
  have hclen : c.length <= 40 := by
   rw [hc, List.length_map]
   have := List.length_filter_le (fun e : Nat => (arr.1[e]?).getD false && (Af p (e : Int) != 4 && ((e : Int) != BO p d run leg))) (List.range k)
   simp at this; omega
  refine ⟨hk', (((k + 1 : Nat) : Int), if (b && (Af p (k : Int) != 4 && ((k : Int) != BO p d run leg))) = true then c ++ [(k : Int)] else c), ?_, rfl, by omega, ?_⟩
  .simp only [E3, show decide ((k : Int) < 40) = true by simp; omega, cond_true, Ak, hb, Option.bind_some, F4, Iw hv hd, Bp (show c.length + [(k : Int)].length <= 4294967296 by simp; omega), AX (show k < 1000000000 by omega)]
   cases b with
   | false => rfl
   | true =>
    cases Af p (k : Int) != 4 with
    | false => rfl
    | true => cases (k : Int) != BO p d run leg <;> rfl
  rw [List.range_succ, List.filter_append, List.map_append, <- hc]
  simp only [List.filter_cons, List.filter_nil, hb, Option.getD_some]
  split <;> simp) ⟨rfl, by omega, rfl⟩
 exact hb
theorem ABO (s : Int) (hs : 0 <= s /\ s < 1000000) (arr : Bk 40 Bool) (L : CG) (hl : L.elems.length <= 1000) (hr : ∀ e ∈ L.elems, 0 <= e /\ e < 40) (met : Bool) (m : Int) :
  ∃ a, AO (DE (s, arr) L (met, m)) (0, arr) = some (.inl (s + 1, a)) /\ ∀ (x : Nat) b, x < 40 -> arr.1[x]? = some b -> a.1[x]? = some (b || (Hk L.elems (x : Int) && met)) := by
 obtain ⟨r, h1, a, rfl, h2⟩ := Bj (l := L.elems) (step := DE (s, arr) L (met, m)) (Post := fun r => ∃ a : Bk 40 Bool, r = Sum.inl (s + 1, a) /\ ∀ (x : Nat) b, x < 40 -> arr.1[x]? = some b -> a.1[x]? = some (b || (Hk L.elems (x : Int) && met)))
  (fun i a => ∀ (x : Nat) b, x < 40 -> arr.1[x]? = some b -> a.1[x]? = some (b || (Hk (L.elems.take i) (x : Int) && met))) (fun a ha => by
   rw [List.take_length] at ha
   exact ⟨_, by simp only [DE, Bn, cond_false, B1 (n := s + 1) (by omega) (by omega)], a, rfl, ha⟩) (fun i e a he ha => by
   have hi := BV he
   obtain ⟨h0, h40⟩ := hr e (List.mem_of_getElem? he)
   obtain ⟨b0, hb0⟩ := Qk a h0 h40
   refine .inr ⟨IC a e (b0 || met), ?_, fun x b hx hb => ?_⟩
   .simp only [DE, BT he, cond_true, Ak, he, Option.bind_some, hb0, AX (show i < 1000000000 by omega)]
    cases b0 <;> rfl
   have hg := ha x b hx hb
   rw [Vm a h0 h40 _ x hx, EI he]
   unfold Hk at hg ⊢
   rw [List.any_append]
   by_cases c : e = (x : Int)
   .rw [if_pos c]
    have hb1 : AY a.1 e = a.1[x]? := by rw [c]; rfl
    rw [hb1, hg] at hb0
    cases hb0
    have : (e == (x : Int)) = true := beq_iff_eq.2 c
    simp only [List.any_cons, List.any_nil, this]
    cases b <;> cases met <;> simp
   rw [if_neg c, hg]
   have : (e == (x : Int)) = false := beq_eq_false_iff_ne.2 c
   simp only [List.any_cons, List.any_nil, this, Bool.or_false]) (c := arr) (fun x b hx hb => by rw [hb]; simp [Hk])
 exact ⟨a, h1, h2⟩
theorem ABP (s : Int) (arr : Bk 40 Bool) (L : CG) (hl : L.elems.length <= 1000) (hr : ∀ e ∈ L.elems, 0 <= e /\ e < 40) :
  AO (E2 (s, arr) L) (false, 0) = AO (DE (s, arr) L (L.elems.any fun e => (AY arr.1 e).getD false, (L.elems.length : Int))) (0, arr) := by
 have key := Cc L.elems (fun i (c : Bool) => (c, (i : Int))) (fun i c r => AO (DE (s, arr) L (c || r.any fun e => (AY arr.1 e).getD false, (L.elems.length : Int))) (0, arr)) (step := E2 (s, arr) L) (fun c => by
   simp only [E2, Bn, cond_false, List.any_nil, Bool.or_false]) (fun i c e r he hi => by
   obtain ⟨h0, h40⟩ := hr e (List.mem_of_getElem? he)
   obtain ⟨b0, hb0⟩ := Qk arr h0 h40
   right
   refine ⟨c || b0, ?_, ?_⟩
   .simp only [E2, BT he, cond_true, Ak, he, Option.bind_some, hb0, AX (show i < 1000000000 by omega)]
    cases c <;> rfl
   simp only [List.any_cons, hb0, Option.getD_some, Bool.or_assoc]) false
 simpa using key
theorem ABQ (hv : BP p) {d : Ac} (hd : F3 d) (run leg : Int) (hw : AP (leg + 1) = leg + 1) {l : List Ag} (ks : List Int) (arr : Bk 40 Bool) (ha : ∀ x : Nat, x < 40 -> arr.1[x]? = some (eB l ks (x : Int))) :
  AO (Dx p d run leg) (0, arr) = some ⟨Ka p l ks (BO p d run leg), Hl p (BO p d run (leg + 1))⟩ := by
 have q := hv.nl
 obtain ⟨b, hb, rfl⟩ := Bj (l := p.lines) (step := Dx p d run leg) (Post := fun b => b = (⟨Ka p l ks (BO p d run leg), Hl p (BO p d run (leg + 1))⟩ : DH))
  (fun i a => ∀ x : Nat, x < 40 -> a.1[x]? = some (eB l ks (x : Int) || (p.lines.take i).any fun L => Hk L.elems (x : Int) && L.elems.any (eB l ks))) (fun a ha => by
   rw [List.take_length] at ha
   refine ⟨_, by simp only [Dx, Bn, cond_false, ABN hv hd run leg hw]; rfl, ?_⟩
   congr 2
   refine List.filter_congr fun e he => ?_
   rw [ha e (List.mem_range.1 he)]
   rfl) (fun i L a hL ha => by
   have hi := BV hL
   have hLl := (hv.few.line i L hL).1
   have hr : ∀ e ∈ L.elems, 0 <= e /\ e < 40 := fun e he => QD hv (List.mem_of_getElem? hL) he
   obtain ⟨a', h1, h2⟩ := ABO (i : Int) (by omega) a L (by omega) hr (L.elems.any fun e => (AY a.1 e).getD false) (L.elems.length : Int)
   refine .inr ⟨a', ?_, fun x hx => ?_⟩
   .simp only [Dx, BT hL, cond_true, Ak, hL, Option.bind_some, ABP (i : Int) a L (by omega) hr, h1]
    rfl
   rw [h2 x _ hx (ha x hx), EI hL, List.any_append]
   have hmet : (L.elems.any fun e => (AY a.1 e).getD false) = L.elems.any (eB l ks) := by
    rw [Bool.eq_iff_iff, List.any_eq_true, List.any_eq_true]
    have hval : ∀ e ∈ L.elems, (AY a.1 e).getD false = eB l ks e := fun e he => by
     obtain ⟨h0, h40⟩ := hr e he
     obtain ⟨k, rfl⟩ := Int.eq_ofNat_of_zero_le h0
     have hk : k < 40 := by omega
     have hno : ((p.lines.take i).any fun L => Hk L.elems (k : Int) && L.elems.any (eB l ks)) = false := by
      rw [List.any_eq_false]
      intro M hM
      have : Hk M.elems (k : Int) = false := by
       cases hh : Hk M.elems (k : Int) with
       | false => rfl
       | true => exact absurd (KF.1 hh) (Wm hv hL he M hM)
      rw [this]; simp
     rw [Ak, ha k hk, hno]; simp
    constructor
    .rintro ⟨e, he, h⟩; exact ⟨e, he, by rw [<- hval e he]; exact h⟩
    rintro ⟨e, he, h⟩; exact ⟨e, he, by rw [hval e he]; exact h⟩
   rw [hmet]
   simp only [List.any_cons, List.any_nil, Bool.or_false, Bool.or_assoc]) (c := arr) (fun x hx => by rw [ha x hx]; simp)
 exact hb
theorem ABR (s : Int × Bk 40 Bool) (hs : 0 <= s.1 /\ s.1 < 1000000) (r : Ag) (hz : r.zone.length <= 1000) (hr : ∀ e ∈ r.zone, 0 <= e /\ e < 40) (a : Bk 40 Bool) : AO (E0 s r) (0, a) = some (.inl (s.1 + 1, Es a r.zone)) :=
 Cc r.zone (fun i (c : Bk 40 Bool) => ((i : Int), c)) (fun i c l => some (.inl (s.1 + 1, Es c l))) (step := E0 s r) (fun c => by
  simp only [E0, Bn, cond_false, B1 (n := s.1 + 1) (by omega) (by omega)]; rfl) (fun i c e l he hi => by
  obtain ⟨h0, h40⟩ := hr e (List.mem_of_getElem? he)
  obtain ⟨b, hb⟩ := Qk c h0 h40
  exact .inr ⟨IC c e true, by simp only [E0, BT he, cond_true, Ak, he, Option.bind_some, hb, AX (show i < 1000000000 by omega)], rfl⟩) a
theorem ABS {l : List Ag} {k : Int} {r : Ag} (hk : AY l k = some r) (s : Int × Bk 40 Bool) (hs : 0 <= s.1 /\ s.1 < 1000000) (h1 : r.steps.length <= 1000) (hz : r.zone.length <= 1000) (h2 : ∀ t ∈ r.steps, 0 <= t.elem /\ t.elem < 40) (hr : ∀ e ∈ r.zone, 0 <= e /\ e < 40)
  (a : Bk 40 Bool) : AO (E1 l s k r) (0, a) = some (.inl (s.1 + 1, Es a (FP l k))) := by
 have e : FP l k = r.steps.map (·.elem) ++ r.zone := by unfold FP; rw [hk]
 rw [e, Tt]
 exact Cc r.steps (fun i (c : Bk 40 Bool) => ((i : Int), c)) (fun i c t => some (.inl (s.1 + 1, Es (Es c (t.map (·.elem))) r.zone))) (step := E1 l s k r) (fun c => by
  simp only [E1, Bn, cond_false, hk, Option.bind_some, ABR s hs r hz hr]; rfl) (fun i c t l' he hi => by
  obtain ⟨h0, h40⟩ := h2 t (List.mem_of_getElem? he)
  obtain ⟨b, hb⟩ := Qk c h0 h40
  exact .inr ⟨IC c t.elem true, by simp only [E1, BT he, cond_true, Ak, he, Option.bind_some, hb, AX (show i < 1000000000 by omega)], rfl⟩) a
theorem Wn (hv : BP p) {d : Ac} (hd : F3 d) (hx : JB d) {l : List Ag} (hl : H6 l) (he : KG p l) (run leg : Int) (hw : AP (leg + 1) = leg + 1) : Jd p l d run leg = some (Mn p l d run leg) := by
 unfold Jd Mn
 rw [P8 hv hd hx hl]
 simp only [Option.bind_some]
 have hks : ∀ k ∈ DN p l d run leg, ∃ r, AY l k = some r /\ r ∈ l := fun k hk => by
  obtain ⟨-, i, a, x, s, rfl, h2, -⟩ := Sb hk
  exact ⟨a, h2, List.mem_of_getElem? h2⟩
 have hlen : (DN p l d run leg).length <= 64 := by have := Oq (p := p) (l := l) (d := d) (run := run) (leg := leg); have := hl.len; omega
 generalize DN p l d run leg = ks at hks hlen
 have hall : ∀ x ∈ ks.flatMap (FP l), 0 <= x /\ x < 40 := fun x hm => by
  obtain ⟨k, hk, hm⟩ := List.mem_flatMap.1 hm
  obtain ⟨r, h1, h2⟩ := hks k hk
  unfold FP at hm
  rw [h1] at hm
  rcases List.mem_append.1 hm with hm | hm
  .obtain ⟨t, ht, rfl⟩ := List.mem_map.1 hm
   exact he.steps r h2 t ht
  exact he.zone r h2 x hm
 have key := Cc ks (fun i (c : Bk 40 Bool) => ((i : Int), c)) (fun i c r => AO (Dx p d run leg) (0, Es c (r.flatMap (FP l)))) (step := E4 p l d run leg ks) (fun c => by
   simp only [E4, Bn, cond_false, List.flatMap_nil, Es]) (fun i c k r hk hi => by
   obtain ⟨a, h1, h2⟩ := hks k (List.mem_of_getElem? hk)
   obtain ⟨s1, s2⟩ := hl.steps a h2
   have s3 := hl.zone a h2
   right
   refine ⟨Es c (FP l k), ?_, ?_⟩
   .simp only [E4, BT hk, cond_true, Ak, hk, Option.bind_some, h1, ABS h1 ((i : Int), c) (by simp only; omega) (by omega) (by omega) (he.steps a h2) (he.zone a h2)]
    rfl
   rw [List.flatMap_cons, Tt]) (Ro 40 false)
 have e0 : AO (E4 p l d run leg ks) (0, Ro 40 false) = _ := key
 rw [e0]
 refine ABQ (l := l) hv hd run leg hw ks _ fun x hx => ?_
 rw [QC _ (Ro 40 false) hall x false hx (by show (List.replicate 40 false)[x]? = some false; rw [List.getElem?_replicate, if_pos hx])]
 simp [eB]
theorem Mo (hv : BP p) {d : Ac} (hd : F3 d) (hx : JB d) {l : List Ag} (hl : H6 l) (he : KG p l) {run : Int} {r : Dg} (hr : AY d.runs run = some r) (at_ : List Int) :
  ∀ (m : Nat) (leg : Nat) (c : List DH), leg + m = r.legs.length -> c.length <= leg -> AO (EP p l d run at_) ((leg : Int), c) = some ⟨at_, c ++ (List.range m).map fun j => Mn p l d run ((leg + j : Nat) : Int)⟩
 | 0, leg, c, hm, _ => by
  have hL := (hd.legs _ r (DM hr).1).1
  refine FO ?_
  simp only [EP, hr, Option.bind_some, show ¬ (leg : Int) < (r.legs.length : Int) by omega, decide_false, cond_false, List.range_zero, List.map_nil, List.append_nil]
 | m + 1, leg, c, hm, hc => by
  have hL := (hd.legs _ r (DM hr).1).1
  have e1 : EP p l d run at_ ((leg : Int), c) = some (.inl (((leg + 1 : Nat) : Int), c ++ [Mn p l d run (leg : Int)])) := by
   simp only [EP, hr, Option.bind_some, show (leg : Int) < (r.legs.length : Int) by omega, decide_true, cond_true, Wn hv hd hx hl he run (leg : Int) (B1 (by omega) (by omega)), Bp (show c.length + [Mn p l d run (leg : Int)].length <= 4294967296 by simp; omega), AX (show leg < 1000000000 by omega)]
  rw [Dn e1, Mo hv hd hx hl he hr at_ m (leg + 1) _ (by omega) (by simp; omega), List.range_succ_eq_map]
  simp only [List.map_cons, List.map_map, List.append_assoc, List.cons_append, List.nil_append, Nat.add_zero]
  congr 4
  refine List.map_congr_left fun j _ => ?_
  simp only [Function.comp]
  congr 1
  omega
def Tv (p : AK) (e : Int) : List Int := if Af p e ≠ 0 /\ Af p e ≠ 4 then [e] else []
def MP (p : AK) (l : List Ag) (d : Ac) (run leg : Int) : D9 := match Ih d run leg with
 | none => ⟨[], []⟩
 | some r => ⟨Tv p (BO p d run leg), (List.range (r.legs.length - leg.toNat)).map fun j => Mn p l d run ((leg.toNat + j : Nat) : Int)⟩
theorem Vn (hv : BP p) {d : Ac} (hd : F3 d) (hx : JB d) {l : List Ag} (hl : H6 l) (he : KG p l) (run leg : Int) : Ib p l d run leg = some (MP p l d run leg) := by
 unfold Ib MP
 rw [RZ]
 cases h : Ih d run leg with
 | none => rfl
 | some r =>
  obtain ⟨hr, h1, h2, h3, h4⟩ := Ek h
  obtain ⟨k, rfl⟩ := Int.eq_ofNat_of_zero_le h1
  have hz : ∀ e, ((DD p e).bind fun y64 => ((bif (y64 != 0) then some (y64 != 4) else some false : Option (Bool))).bind fun (t68 : Bool) => bif t68 then some [e] else some ([] : List Int) : Option (List Int)) = some (Tv p e) := fun e => by
   rw [F4]
   unfold Tv
   by_cases q1 : Af p e = 0
   .simp [q1]
   by_cases q2 : Af p e = 4
   .simp [q2]
   have b1 : (Af p e != 0) = true := bne_iff_ne.2 q1
   have b2 : (Af p e != 4) = true := bne_iff_ne.2 q2
   simp only [Option.bind_some, b1, b2, cond_true, if_pos (show Af p e ≠ 0 /\ Af p e ≠ 4 from ⟨q1, q2⟩)]
  simp only [Option.isSome_some, Bool.not_true, Option.bind_some, cond_false, Iw hv hd, hz]
  have := Mo hv hd hx hl he hr (Tv p (BO p d run (k : Int))) (r.legs.length - k) k [] (by omega) (by simp)
  simpa using this
end
end Go.E
/- Plain Lean: what a leg wants free, and what a run claims: the program beside the document. No condition. -/
namespace Go.E
open Go
def Ou (m : List (Int × Bool)) : List Int -> List (Int × Bool)
 | [] => m
 | e :: r => Ou (A1 e true m) r
def CI (m : List (Int × Bool)) : List Int := m.map (·.1)
theorem Tw (e : Int) : ∀ m : List (Int × Bool), (CI m).Nodup -> (CI (A1 e true m)).Nodup /\ ∀ x, x ∈ CI (A1 e true m) ↔ x ∈ CI m \/ x = e
 | [], _ => by simp [A1, CI]
 | q :: m, h => by
  unfold CI at h
  rw [List.map_cons, List.nodup_cons] at h
  obtain ⟨h1, h2⟩ := Tw e m h.2
  have hu : A1 e true (q :: m) = if (e == q.1) = true then (q.1, true) :: m else q :: A1 e true m := rfl
  by_cases c : e = q.1
  .have : A1 e true (q :: m) = (q.1, true) :: m := by rw [hu, if_pos (by rw [c]; exact beq_self_eq_true _)]
   rw [this]
   unfold CI
   rw [List.map_cons]
   refine ⟨List.nodup_cons.2 h, fun x => ?_⟩
   rw [List.map_cons, c]
   constructor
   .exact .inl
   rintro (h | rfl)
   .exact h
   exact List.mem_cons_self
  have : A1 e true (q :: m) = q :: A1 e true m := by rw [hu, if_neg (fun hh => c (beq_iff_eq.1 hh))]
  rw [this]
  unfold CI at h1 h2 ⊢
  rw [List.map_cons]
  refine ⟨List.nodup_cons.2 ⟨fun hm => ?_, h1⟩, fun x => ?_⟩
  .rcases (h2 q.1).1 hm with hm | hm
   .exact h.1 hm
   exact c hm.symm
  rw [List.map_cons, List.mem_cons, List.mem_cons, h2]
  constructor
  .rintro (h | h | h)
   .exact .inl (.inl h)
   .exact .inl (.inr h)
   exact .inr h
  rintro ((h | h) | h)
  .exact .inl h
  .exact .inr (.inl h)
  exact .inr (.inr h)
structure Cv (m : List (Int × Bool)) (S : Int -> Prop) : Prop where
 nd : (CI m).Nodup
 mem : ∀ x, x ∈ CI m ↔ S x
theorem Cv.put {m : List (Int × Bool)} {S : Int -> Prop} (h : Cv m S) (e : Int) : Cv (A1 e true m) fun x => S x \/ x = e := by
 obtain ⟨h1, h2⟩ := Tw e m h.nd
 exact ⟨h1, fun x => by rw [h2, h.mem]⟩
theorem Cv.puts : ∀ (l : List Int) {m : List (Int × Bool)} {S : Int -> Prop}, Cv m S -> Cv (Ou m l) fun x => S x \/ x ∈ l
 | [], m, S, h => ⟨h.nd, fun x => by rw [Ou, h.mem]; simp⟩
 | e :: l, m, S, h => by
  have := Cv.puts l (h.put e)
  exact ⟨this.nd, fun x => by
   show x ∈ CI (Ou (A1 e true m) l) ↔ _
   rw [this.mem, List.mem_cons, or_assoc]⟩
theorem Cv.ext {m : List (Int × Bool)} {S T : Int -> Prop} (h : Cv m S) (e : ∀ x, S x ↔ T x) : Cv m T := ⟨h.nd, fun x => by rw [h.mem, e]⟩
theorem Tx (y : Int) : ∀ m : List (Int × Bool), (CI m).Nodup -> (CI (Et y m)).Nodup /\ ∀ x, x ∈ CI (Et y m) ↔ x ∈ CI m /\ x ≠ y
 | [], _ => by simp [Et, CI]
 | q :: m, h => by
  unfold CI at h
  rw [List.map_cons, List.nodup_cons] at h
  obtain ⟨h1, h2⟩ := Tx y m h.2
  have hu : Et y (q :: m) = if (y == q.1) = true then m else q :: Et y m := rfl
  by_cases c : y = q.1
  .have : Et y (q :: m) = m := by rw [hu, if_pos (by rw [c]; exact beq_self_eq_true _)]
   rw [this]
   unfold CI
   refine ⟨h.2, fun x => ?_⟩
   rw [List.map_cons, List.mem_cons, c]
   constructor
   .intro hm; exact ⟨.inr hm, fun e => h.1 (e ▸ hm)⟩
   rintro ⟨hm | hm, hne⟩
   .exact absurd hm hne
   exact hm
  have : Et y (q :: m) = q :: Et y m := by rw [hu, if_neg (fun hh => c (beq_iff_eq.1 hh))]
  rw [this]
  unfold CI at h1 h2 ⊢
  rw [List.map_cons]
  refine ⟨List.nodup_cons.2 ⟨fun hm => h.1 ((h2 q.1).1 hm).1, h1⟩, fun x => ?_⟩
  rw [List.map_cons, List.mem_cons, List.mem_cons, h2]
  constructor
  .rintro (rfl | ⟨a, b⟩)
   .exact ⟨.inl rfl, fun e => c e.symm⟩
   exact ⟨.inr a, b⟩
  rintro ⟨a | a, b⟩
  .exact .inl a
  exact .inr ⟨a, b⟩
theorem Re : ∀ (l : List Int) (a b : Int), a <= b -> l.Pairwise (· < ·) -> (∀ x ∈ l, a <= x /\ x < b) -> (l.length : Int) <= b - a
 | [], a, b, h, _, _ => by simp; omega
 | x :: l, a, b, h, hp, hm => by
  rw [List.pairwise_cons] at hp
  have hx := hm x (by simp)
  have := Re l (x + 1) b (by omega) hp.2 fun y hy => by have := hp.1 y hy; have := hm y (by simp [hy]); omega
  rw [List.length_cons]
  omega
theorem RB {l : List Int} (h : l.Nodup) : (EC l).Pairwise (· < ·) := by
 have h1 := Ov l
 have h2 : (EC l).Nodup := (FQ l).nodup_iff.2 h
 have := List.Pairwise.and h1 h2
 exact this.imp fun {a b} ⟨h3, h4⟩ => by have : a ≠ b := h4; omega
theorem Vo {m : List (Int × Bool)} (h : (CI m).Nodup) (hr : ∀ x ∈ CI m, 0 <= x /\ x < 40) : Nf m = some (EC (CI m)) := by
 have h2 := Re (EC (CI m)) 0 40 (by omega) (RB h) fun x hx => hr x ((FQ _).mem_iff.1 hx)
 have h3 : (EC (CI m)).length = m.length := by rw [(FQ _).length_eq]; unfold CI; simp
 unfold Nf
 have e1 : decide (m.length * 8 <= 140737488355328) = true := by simp; omega
 have e2 : N7 (m.map (·.1)) = true := (Ow _).2 h
 have e3 : m.all (fun p => Uj p.1) = true := List.all_eq_true.2 fun q hq => by
  have := hr q.1 (List.mem_map.2 ⟨q, hq, rfl⟩)
  unfold Uj
  simp [Lit.wf, IntKind.min, IntKind.max, IntKind.signed, IntKind.bits]
  omega
 rw [e1, e2, e3]
 rfl
section
variable {p : AK} {n : Az}
def XO (p : AK) (e x : Int) : Prop := x = e \/ ∃ L ∈ p.lines, e ∈ L.elems /\ x ∈ L.elems
theorem YS (L : CG) (hl : L.elems.length <= 1000) (m : List (Int × Bool)) : AO (Du L) (0, m) = some (Ou m L.elems) :=
 Cc L.elems (fun i (c : List (Int × Bool)) => ((i : Int), c)) (fun i c l => some (Ou c l)) (step := Du L) (fun c => by simp only [Du, Bn, cond_false]; rfl) (fun i c e l he hi =>
  .inr ⟨A1 e true c, by simp only [Du, BT he, cond_true, Ak, he, Option.bind_some, AX (show i < 1000000000 by omega)], rfl⟩) m
theorem YT (L : CG) (hl : L.elems.length <= 1000) (m : List (Int × Bool)) : AO (Dv L) (0, m) = some (Ou m L.elems) :=
 Cc L.elems (fun i (c : List (Int × Bool)) => ((i : Int), c)) (fun i c l => some (Ou c l)) (step := Dv L) (fun c => by simp only [Dv, Bn, cond_false]; rfl) (fun i c e l he hi =>
  .inr ⟨A1 e true c, by simp only [Dv, BT he, cond_true, Ak, he, Option.bind_some, AX (show i < 1000000000 by omega)], rfl⟩) m
theorem ZW (hv : BP p) (hL : LO p n) {S : Int -> Prop} {m : List (Int × Bool)} (hm : Cv m S) (e : Int) : ∃ v m', DQ n e = some v /\ Cv m' (fun x => S x \/ XO p e x) /\
  ((decide (0 <= v.1) = true /\ decide (v.1 < (p.lines.length : Int)) = true /\ ∃ L, AY p.lines v.1 = some L /\ AO (Du L) (0, A1 e true m) = some m' /\ AO (Dv L) (0, A1 e true m) = some m') \/ (decide (0 <= v.1) = false /\ A1 e true m = m')) := by
 obtain ⟨v, h1, h2⟩ := YR hL e
 rcases h2 with ⟨h2, h3⟩ | ⟨L, h2, h3, h4, h5⟩
 .refine ⟨v, A1 e true m, h1, (hm.put e).ext fun x => ?_, .inr ⟨by rw [h2]; rfl, rfl⟩⟩
  unfold XO
  constructor
  .rintro (h | h)
   .exact .inl h
   exact .inr (.inl h)
  rintro (h | h | ⟨L, g1, g2, -⟩)
  .exact .inl h
  .exact .inr h
  exact absurd g2 (h3 L g1)
 obtain ⟨g1, g2⟩ := DM h4
 have hLl := (hv.few.line _ L g1).1
 have hmem : L ∈ p.lines := List.mem_of_getElem? g1
 refine ⟨v, Ou (A1 e true m) L.elems, h1, (Cv.puts L.elems (hm.put e)).ext fun x => ?_, .inl ⟨by simpa using h2, by simpa using h3, L, h4, YS L (by omega) _, YT L (by omega) _⟩⟩
 unfold XO
 constructor
 .rintro ((h | h) | h)
  .exact .inl h
  .exact .inr (.inl h)
  exact .inr (.inr ⟨L, hmem, h5, h⟩)
 rintro (h | h | ⟨M, k1, k2, k3⟩)
 .exact .inl (.inl h)
 .exact .inl (.inr h)
 have := Tu hv.line.once hmem k1 h5 k2
 subst this
 exact .inr k3
def Ii (p : AK) (es : List Int) (x : Int) : Prop := ∃ e ∈ es, XO p e x
theorem Vp (es : List Int) (e : Int) (S : Int -> Prop) (x : Int) : ((S x \/ Ii p es x) \/ XO p e x) ↔ (S x \/ Ii p (es ++ [e]) x) := by
 unfold Ii
 constructor
 .rintro ((h | ⟨f, h1, h2⟩) | h)
  .exact .inl h
  .exact .inr ⟨f, by simp [h1], h2⟩
  exact .inr ⟨e, by simp, h⟩
 rintro (h | ⟨f, h1, h2⟩)
 .exact .inl (.inl h)
 rcases List.mem_append.1 h1 with h1 | h1
 .exact .inl (.inr ⟨f, h1, h2⟩)
 rw [List.mem_singleton.1 h1] at h2; exact .inr h2
theorem YU (hv : BP p) (hL : LO p n) (s : Int × List (Int × Bool)) (hs : 0 <= s.1 /\ s.1 < 1000000) (r : Ag) (hz : r.zone.length <= 1000) {S : Int -> Prop} {m : List (Int × Bool)} (hm : Cv m S) :
  ∃ m', AO (Ey n p.lines s r) (0, m) = some (.inl (s.1 + 1, m')) /\ Cv m' (fun x => S x \/ Ii p r.zone x) := by
 obtain ⟨b, h1, m', rfl, h2⟩ := Bj (l := r.zone) (step := Ey n p.lines s r) (Post := fun b => ∃ m', b = Sum.inl (s.1 + 1, m') /\ Cv m' (fun x => S x \/ Ii p r.zone x)) (fun i c => Cv c (fun x => S x \/ Ii p (r.zone.take i) x)) (fun c hc => by
   rw [List.take_length] at hc
   exact ⟨_, by simp only [Ey, Bn, cond_false, B1 (n := s.1 + 1) (by omega) (by omega)], c, rfl, hc⟩) (fun i e c he hc => by
   have hi := BV he
   obtain ⟨v, c', g1, g2, g3⟩ := ZW hv hL hc e
   have g2' : Cv c' (fun x => S x \/ Ii p (r.zone.take (i + 1)) x) := g2.ext fun x => by rw [EI he]; exact Vp _ _ _ _
   refine .inr ⟨c', ?_, g2'⟩
   simp only [Ey, BT he, cond_true, Ak, he, Option.bind_some, g1, AX (show i < 1000000000 by omega)]
   rcases g3 with ⟨k1, k2, L, k3, -, k4⟩ | ⟨k1, k2⟩
   .simp only [k1, k2, k3, k4, cond_true, Option.bind_some]
   simp only [k1, k2, cond_false, Option.bind_some]) (c := m) (hm.ext fun x => by simp [Ii])
 exact ⟨m', h1, h2⟩
theorem XP (es fs : List Int) (S : Int -> Prop) (x : Int) : ((S x \/ Ii p es x) \/ Ii p fs x) ↔ (S x \/ Ii p (es ++ fs) x) := by
 unfold Ii
 constructor
 .rintro ((h | ⟨f, h1, h2⟩) | ⟨f, h1, h2⟩)
  .exact .inl h
  .exact .inr ⟨f, by simp [h1], h2⟩
  exact .inr ⟨f, by simp [h1], h2⟩
 rintro (h | ⟨f, h1, h2⟩)
 .exact .inl (.inl h)
 rcases List.mem_append.1 h1 with h1 | h1
 .exact .inl (.inr ⟨f, h1, h2⟩)
 exact .inr ⟨f, h1, h2⟩
theorem YV (hv : BP p) (hL : LO p n) {l : List Ag} {k : Int} {r : Ag} (hk : AY l k = some r) (s : Int × List (Int × Bool)) (hs : 0 <= s.1 /\ s.1 < 1000000) (h1 : r.steps.length <= 1000) (hz : r.zone.length <= 1000) {S : Int -> Prop} {m : List (Int × Bool)} (hm : Cv m S) :
  ∃ m', AO (Ez n p.lines l s k r) (0, m) = some (.inl (s.1 + 1, m')) /\ Cv m' (fun x => S x \/ Ii p (FP l k) x) := by
 have er : FP l k = r.steps.map (·.elem) ++ r.zone := by unfold FP; rw [hk]
 rw [er]
 obtain ⟨b, h1, m', rfl, h2⟩ := Bj (l := r.steps) (step := Ez n p.lines l s k r) (Post := fun b => ∃ m', b = Sum.inl (s.1 + 1, m') /\ Cv m' (fun x => S x \/ Ii p (r.steps.map (·.elem) ++ r.zone) x)) (fun i c => Cv c (fun x => S x \/ Ii p ((r.steps.take i).map (·.elem)) x)) (fun c hc => by
   rw [List.take_length] at hc
   obtain ⟨m', g1, g2⟩ := YU hv hL s hs r hz hc
   exact ⟨_, by simp only [Ez, Bn, cond_false, hk, Option.bind_some, g1]; rfl, m', rfl, g2.ext fun x => XP _ _ _ _⟩) (fun i t c he hc => by
   have hi := BV he
   obtain ⟨v, c', g1, g2, g3⟩ := ZW hv hL hc t.elem
   have g2' : Cv c' (fun x => S x \/ Ii p ((r.steps.take (i + 1)).map (·.elem)) x) := g2.ext fun x => by rw [Iv he]; exact Vp _ _ _ _
   refine .inr ⟨c', ?_, g2'⟩
   simp only [Ez, BT he, cond_true, Ak, he, Option.bind_some, g1, AX (show i < 1000000000 by omega)]
   rcases g3 with ⟨k1, k2, L, k3, k4, -⟩ | ⟨k1, k2⟩
   .simp only [k1, k2, k3, k4, cond_true, Option.bind_some]
   simp only [k1, k2, cond_false, Option.bind_some]) (c := m) (hm.ext fun x => by simp [Ii])
 exact ⟨m', h1, h2⟩
theorem QE (hn : Bf p n) (x : Int) : Fp x (some n) = some (Af p x == 4) := by
 unfold Fp
 simp only [JM, GK hn, Option.bind_some]
theorem Vq (hn : Bf p n) (y : List Int) (hy : y.length <= 1000) : ((AO (Gb n y) 0).bind fun t => bif (t == (-1)) then some y else AO (Dw n) (t, AP (t + 1), y)) = some (y.filter fun x => Af p x != 4) := by
 rw [Sd (l := y) (fun _ x => Af p x == 4) (fun i => (i : Int)) (some (-1)) (by simp [Gb]) (fun i x hx => by
  have := BV hx
  simp only [Gb, BT hx, cond_true, Ak, hx, Option.bind_some, QE hn, AX (show i < 1000000000 by omega)]
  cases Af p x == 4 <;> rfl)]
 cases hf : Em (fun _ x => Af p x == 4) 0 y with
 | none =>
  have h := (NJ y 0).1 hf
  simp only [XQ, Option.bind_some, beq_self_eq_true, cond_true, Option.some.injEq]
  symm
  rw [List.filter_eq_self]
  intro x hx
  obtain ⟨k, hk⟩ := List.mem_iff_getElem?.1 hx
  have := h k x hk
  simp only [bne, this, Bool.not_false]
 | some j =>
  obtain ⟨k, a, h1, h2, h3, h4⟩ := (NK y 0 j).1 hf
  have hjk : j = k := by omega
  subst hjk
  have hj := BV h2
  have hne : (((j : Nat) : Int) == (-1)) = false := beq_eq_false_iff_ne.2 (by omega)
  simp only [XQ, Option.bind_some, hne, cond_false, AX (show j < 1000000000 by omega)]
  have hpre : (y.take j).filter (fun x => Af p x != 4) = y.take j := by
   rw [List.filter_eq_self]
   intro x hx
   obtain ⟨m, hm⟩ := List.mem_iff_getElem?.1 hx
   have hml : m < j := by have := BV hm; rw [List.length_take] at this; omega
   rw [List.getElem?_take_of_lt hml] at hm
   have := h4 m x hml hm
   simp only [bne]
   rw [this]; rfl
  have h3' : (Af p a != 4) = false := by unfold bne; rw [h3]; rfl
  obtain ⟨b, hb, rfl⟩ := EU (step := Dw n) (Post := fun b => b = y.filter fun x => Af p x != 4)
   (fun q s => ∃ i : Nat, s.1 = (i : Int) /\ s.2.1 = ((j + 1 + q : Nat) : Int) /\ j + 1 + q <= y.length /\ i < j + 1 + q /\ s.2.2.length = y.length /\ s.2.2.take i = (y.take (j + 1 + q)).filter (fun x => Af p x != 4) /\ s.2.2.drop (j + 1 + q) = y.drop (j + 1 + q)) y.length (s := ((j : Int), ((j + 1 : Nat) : Int), y)) (by
   rintro q ⟨s1, s2, z⟩ ⟨i, e1, e2, hq, hi, hz, ht, hd⟩
   simp only at e1 e2 hz ht hd
   subst e1 e2
   by_cases he : j + 1 + q = y.length
   .left
    rw [he] at ht hi
    have c1 : Jz z (i : Int) (z.length : Int) = some (z.drop i) := by
     unfold Jz Jy
     rw [if_pos ⟨by omega, by omega, by omega⟩]
     simp
    have c2 : RU (0 : Int) z (z.drop i) = some (z.take i ++ List.replicate (z.length - i) 0) := by
     unfold RU
     rw [if_neg (by simp; omega), List.length_drop, show z.length - (z.length - i) = i by omega]
    have c3 : Jz (z.take i ++ List.replicate (z.length - i) (0 : Int)) 0 (i : Int) = some (z.take i) := by
     have hl : (z.take i).length = i := by rw [List.length_take]; omega
     unfold Jz Jy
     rw [if_pos ⟨by omega, by omega, by simp; omega⟩]
     simp only [Int.toNat_natCast, Int.toNat_zero, List.drop_zero]
     rw [List.take_append_of_le_length (by omega), List.take_of_length_le (by omega)]
    refine ⟨z.take i, ?_, by rw [ht, List.take_length]⟩
    simp only [Dw, he, hz, show ¬ (y.length : Int) < (y.length : Int) by omega, decide_false, cond_false]
    rw [<- hz, c1]
    simp only [Option.bind_some, c2, c3]
    rfl
   right
   have hlt : j + 1 + q < y.length := by omega
   obtain ⟨v, hv⟩ : ∃ v, y[j + 1 + q]? = some v := ⟨_, List.getElem?_eq_getElem hlt⟩
   have hzv : z[j + 1 + q]? = some v := by
    have e1 : (z.drop (j + 1 + q))[0]? = z[j + 1 + q]? := by rw [List.getElem?_drop]; rfl
    have e2 : (y.drop (j + 1 + q))[0]? = y[j + 1 + q]? := by rw [List.getElem?_drop]; rfl
    rw [<- e1, hd, e2, hv]
   obtain ⟨o, ho⟩ : ∃ o, z[i]? = some o := ⟨_, List.getElem?_eq_getElem (by omega)⟩
   have hdz : z.drop (j + 1 + (q + 1)) = y.drop (j + 1 + (q + 1)) := by
    have := congrArg (List.drop 1) hd
    rw [List.drop_drop, List.drop_drop] at this
    exact this
   have hcond : decide (((j + 1 + q : Nat) : Int) < (z.length : Int)) = true := by simp; omega
   refine ⟨by omega, ?_⟩
   by_cases k4 : Af p v = 4
   .refine ⟨((i : Int), ((j + 1 + (q + 1) : Nat) : Int), z), ?_, i, rfl, rfl, by omega, by omega, hz, ?_, hdz⟩
    .have : (Af p v == 4) = true := beq_iff_eq.2 k4
     simp only [Dw, hcond, cond_true, Ak, hzv, Option.bind_some, QE hn, this, Bool.not_true, cond_false, AX (show j + 1 + q < 1000000000 by omega)]
     rfl
    have : (Af p v != 4) = false := by unfold bne; rw [beq_iff_eq.2 k4]; rfl
    dsimp only
    rw [show j + 1 + (q + 1) = (j + 1 + q) + 1 by omega, EI hv, List.filter_append, <- ht]
    simp [this]
   .have hk : (Af p v == 4) = false := beq_eq_false_iff_ne.2 k4
    refine ⟨(((i + 1 : Nat) : Int), ((j + 1 + (q + 1) : Nat) : Int), A5 z (i : Int) v), ?_, i + 1, rfl, rfl, by omega, by omega, by dsimp only; rw [BH]; exact hz, ?_, ?_⟩
    .simp only [Dw, hcond, cond_true, Ak, hzv, ho, Option.bind_some, QE hn, hk, Bool.not_false, AX (show j + 1 + q < 1000000000 by omega), AX (show i < 1000000000 by omega)]
     rfl
    .have : (Af p v != 4) = true := by unfold bne; rw [hk]; rfl
     dsimp only
     rw [show j + 1 + (q + 1) = (j + 1 + q) + 1 by omega, EI hv, List.filter_append, <- ht]
     simp only [List.filter_cons, List.filter_nil, this, if_true]
     unfold A5
     rw [Int.toNat_natCast, List.set_eq_take_append_cons_drop, if_pos (show i < z.length by omega)]
     have hl : (z.take i).length = i := by rw [List.length_take]; omega
     rw [List.take_append, hl, show i + 1 - i = 1 by omega, List.take_of_length_le (show (z.take i).length <= i + 1 by omega)]
     rfl
    dsimp only
    unfold A5
    rw [Int.toNat_natCast, List.drop_set_of_lt (by omega)]
    exact hdz) ⟨j, rfl, rfl, by omega, by omega, rfl, by
   dsimp only
   rw [Nat.add_zero, EI h2, List.filter_append, hpre]
   simp [h3'], rfl⟩
  exact hb
theorem Wo (hv : BP p) (hn : Bf p n) (hL : LO p n) {d : Ac} (hd : F3 d) (hx : JB d) {l : List Ag} (hl : H6 l) (he : KG p l) (run leg : Int) :
  JS n p.lines l d run leg = some (Ka p l (DN p l d run leg) (BO p d run leg)) := by
 unfold JS
 rw [P7 hv hn hd hx hl]
 simp only [Option.bind_some]
 have hks : ∀ k ∈ DN p l d run leg, ∃ r, AY l k = some r /\ r ∈ l := fun k hk => by
  obtain ⟨-, i, a, x, s, rfl, h2, -⟩ := Sb hk
  exact ⟨a, h2, List.mem_of_getElem? h2⟩
 have hlen : (DN p l d run leg).length <= 64 := by have := Oq (p := p) (l := l) (d := d) (run := run) (leg := leg); have := hl.len; omega
 generalize DN p l d run leg = ks at hks hlen
 have hall : ∀ x ∈ ks.flatMap (FP l), 0 <= x /\ x < 40 := fun x hm => by
  obtain ⟨k, hk, hm⟩ := List.mem_flatMap.1 hm
  obtain ⟨r, h1, h2⟩ := hks k hk
  unfold FP at hm
  rw [h1] at hm
  rcases List.mem_append.1 hm with hm | hm
  .obtain ⟨t, ht, rfl⟩ := List.mem_map.1 hm
   exact he.steps r h2 t ht
  exact he.zone r h2 x hm
 obtain ⟨b, hb, rfl⟩ := Bj (l := ks) (step := Gc n p.lines l d run leg ks) (Post := fun b => b = Ka p l ks (BO p d run leg)) (fun i c => Cv c (Ii p ((ks.take i).flatMap (FP l)))) (fun c hc => by
   rw [List.take_length] at hc
   obtain ⟨g1, g2⟩ := Tx (BO p d run leg) c hc.nd
   have hin : ∀ x ∈ CI (Et (BO p d run leg) c), 0 <= x /\ x < 40 := fun x hm => by
    obtain ⟨e, h1, h2⟩ := (hc.mem x).1 ((g2 x).1 hm).1
    rcases h2 with rfl | ⟨L, h3, -, h5⟩
    .exact hall x h1
    exact QD hv h3 h5
   have hrise := Vo g1 hin
   have hstr := RB g1
   have hlen2 := Re _ 0 40 (by omega) hstr fun x hx => hin x ((FQ _).mem_iff.1 hx)
   refine ⟨(EC (CI (Et (BO p d run leg) c))).filter fun x => Af p x != 4, ?_, ?_⟩
   .have hdel := Vq hn (EC (CI (Et (BO p d run leg) c))) (by omega)
    simp only [Gc, Bn, cond_false, Ix hn hd, Option.bind_some, IG, hrise]
    rw [hdel]
    rfl
   .refine Sf (hstr.sublist List.filter_sublist) ?_ fun x => ?_
    .unfold Ka
     rw [List.pairwise_map]
     refine List.Pairwise.sublist List.filter_sublist ?_
     exact (List.pairwise_lt_range (n := 40)).imp fun {a b} h => by omega
    rw [List.mem_filter, (FQ _).mem_iff, g2, hc.mem]
    unfold Ka
    rw [List.mem_map]
    have hcl : Ii p (ks.flatMap (FP l)) x ↔ cB p l ks x = true := by
     unfold Ii XO cB eB
     rw [Bool.or_eq_true, KF, List.any_eq_true]
     constructor
     .rintro ⟨e, h1, rfl | ⟨L, h2, h3, h4⟩⟩
      .exact .inl h1
      exact .inr ⟨L, h2, by rw [Bool.and_eq_true, KF, List.any_eq_true]; exact ⟨h4, e, h3, KF.2 h1⟩⟩
     rintro (h1 | ⟨L, h2, h3⟩)
     .exact ⟨x, h1, .inl rfl⟩
     rw [Bool.and_eq_true, KF, List.any_eq_true] at h3
     obtain ⟨h4, e, h5, h6⟩ := h3
     exact ⟨e, KF.1 h6, .inr ⟨L, h2, h5, h4⟩⟩
    constructor
    .rintro ⟨⟨h1, h2⟩, h3⟩
     have h0 : 0 <= x /\ x < 40 := by
      obtain ⟨e, k1, k2⟩ := h1
      rcases k2 with rfl | ⟨L, h3, -, h5⟩
      .exact hall x k1
      exact QD hv h3 h5
     obtain ⟨m, rfl⟩ := Int.eq_ofNat_of_zero_le h0.1
     refine ⟨m, List.mem_filter.2 ⟨List.mem_range.2 (by omega), ?_⟩, rfl⟩
     rw [Bool.and_eq_true, Bool.and_eq_true]
     exact ⟨hcl.1 h1, h3, bne_iff_ne.2 h2⟩
    rintro ⟨m, hm, rfl⟩
    obtain ⟨-, hm⟩ := List.mem_filter.1 hm
    rw [Bool.and_eq_true, Bool.and_eq_true] at hm
    exact ⟨⟨hcl.2 hm.1, bne_iff_ne.1 hm.2.2⟩, hm.2.1⟩) (fun i k c hk hc => by
   have hi := BV hk
   obtain ⟨a, h1, h2⟩ := hks k (List.mem_of_getElem? hk)
   obtain ⟨s1, s2⟩ := hl.steps a h2
   have s3 := hl.zone a h2
   obtain ⟨m', g1, g2⟩ := YV hv hL h1 ((i : Int), c) (by simp only; omega) (by omega) (by omega) hc
   refine .inr ⟨m', ?_, g2.ext fun x => ?_⟩
   .simp only [Gc, BT hk, cond_true, Ak, hk, Option.bind_some, h1, g1]
    rfl
   rw [EI hk, List.flatMap_append, List.flatMap_cons, List.flatMap_nil, List.append_nil]
   have := XP (p := p) ((ks.take i).flatMap (FP l)) (FP l k) (fun _ => False) x
   simpa using this) (c := []) ⟨by simp [CI], fun x => by simp [CI, Ii]⟩
 exact hb
theorem QF (hn : Bf p n) (e : Int) : Gq n e = some (Hl p e) := by
 unfold Gq Hl
 simp only [GK hn, Option.bind_some, Cx]
 split <;> rfl
theorem Mp (hv : BP p) (hn : Bf p n) (hL : LO p n) {d : Ac} (hd : F3 d) (hx : JB d) {l : List Ag} (hl : H6 l) (he : KG p l) {run : Int} {r : Dg} (hr : AY d.runs run = some r) (b : Bool) (at_ : List Int) :
  ∀ (m : Nat) (leg : Nat) (c : List DH), leg + m = r.legs.length -> c.length <= leg -> AO (EM n l d run (r.legs, b) at_ p) ((leg : Int), c) = some ⟨at_, c ++ (List.range m).map fun j => Mn p l d run ((leg + j : Nat) : Int)⟩
 | 0, leg, c, hm, _ => by
  have hL := (hd.legs _ r (DM hr).1).1
  refine FO ?_
  simp only [EM, show ¬ (leg : Int) < (r.legs.length : Int) by omega, decide_false, cond_false, List.range_zero, List.map_nil, List.append_nil]
 | m + 1, leg, c, hm, hc => by
  have hLL := (hd.legs _ r (DM hr).1).1
  have ha : ∀ w : DH, Bs c [w] = some (c ++ [w]) := fun w => Bp (by simp; omega)
  have e1 : EM n l d run (r.legs, b) at_ p ((leg : Int), c) = some (.inl (((leg + 1 : Nat) : Int), c ++ [Mn p l d run (leg : Int)])) := by
   simp only [EM, show (leg : Int) < (r.legs.length : Int) by omega, decide_true, cond_true, Wo hv hn hL hd hx hl he, Ix hn hd, QF hn, Option.bind_some, AX (show leg < 1000000000 by omega), ha]
   rfl
  rw [Dn e1, Mp hv hn hL hd hx hl he hr b at_ m (leg + 1) _ (by omega) (by simp; omega), List.range_succ_eq_map]
  simp only [List.map_cons, List.map_map, List.append_assoc, List.cons_append, List.nil_append, Nat.add_zero]
  congr 4
  refine List.map_congr_left fun j _ => ?_
  simp only [Function.comp]
  congr 1
  omega
theorem YW (hv : BP p) {d : Ac} (hk : QB p d) (run leg : Int) : BO p d run leg = -1 \/ (Af p (BO p d run leg) = 1 \/ Af p (BO p d run leg) = 4) := by
 unfold BO Lg
 cases h : Ih d run leg with
 | none => exact .inl rfl
 | some r =>
  obtain ⟨hr, h1, h2, h3, h4⟩ := Ek h
  simp only [Option.bind_some]
  have sg : ∀ s q, Ej p s = some q -> Af p q.elem = 1 \/ Af p q.elem = 4 := fun s q hq => by
   unfold Ej at hq
   obtain ⟨a, ha, rfl⟩ := Option.map_eq_some_iff.1 hq
   exact hv.sig.kind _ a (DM ha).1
  cases hh : Fe p r leg with
  | none => exact .inl rfl
  | some q =>
   right
   simp only [Option.map_some, Option.getD_some]
   unfold Fe at hh
   split at hh
   .exact sg _ _ hh
   obtain ⟨x, hx, hh⟩ := Option.bind_eq_some_iff.1 hh
   unfold Qh at hh
   split at hh
   .exact sg _ _ hh
   split at hh
   .rename_i c1 c3
    cases hh
    rw [(Rb x.to).1]
    have := hk.leads _ r (DM hr).1 x (List.mem_of_getElem? (DM hx).1)
    unfold QA at this
    rw [if_neg c1, if_neg (by omega), if_pos c3] at this
    exact .inl (beq_iff_eq.1 this)
   cases hh
theorem ACu (hv : BP p) {d : Ac} (hk : QB p d) (run leg : Int) : (bif decide (0 <= Hl p (BO p d run leg)) then some [Hl p (BO p d run leg)] else some ([] : List Int) : Option (List Int)) = some (Tv p (BO p d run leg)) := by
 unfold Tv Hl
 rcases YW hv hk run leg with h | h | h
 .rw [h]
  have : Af p (-1) = 0 := by unfold Af; rw [Cn (.inl (by omega))]; rfl
  simp [this]
 .have := Ju (p := p) (e := BO p d run leg) (by omega)
  simp [h, this.1]
 simp [h]
theorem Vr (hv : BP p) (hn : Bf p n) (hL : LO p n) {d : Ac} (hd : F3 d) (hk : QB p d) {l : List Ag} (hl : H6 l) (he : KG p l) (run leg : Int) : Gr n l d run leg = some (MP p l d run leg) := by
 unfold Gr MP
 rw [NG]
 cases h : Ih d run leg with
 | none => rfl
 | some r =>
  obtain ⟨hr, h1, h2, h3, h4⟩ := Ek h
  obtain ⟨k, rfl⟩ := Int.eq_ofNat_of_zero_le h1
  simp only [Option.isSome_some, Bool.not_true, Option.bind_some, cond_false, Option.map_some, Option.getD_some, Ix hn hd, QF hn, ACu hv hk, SZ hn hv.few]
  have := Mp hv hn hL hd hk.ix hl he hr true (Tv p (BO p d run (k : Int))) (r.legs.length - k) k [] (by omega) (by simp)
  simpa using this
theorem TL (c : D9) (h1 : c.at_.length <= 1000) (h2 : c.legs.length <= 1000) (h3 : ∀ w ∈ c.legs, w.free.length <= 1000) : Dp c c = some true := by
 unfold Dp
 simp only [LQ c.at_ (by omega), Option.bind_some, Bool.not_true, cond_false, bne_self_eq_false]
 exact ABT (l := c.legs) (by simp [FC]) (fun i w hw => by
  have hi := BV hw
  simp only [FC, BT hw, cond_true, Ak, hw, Option.bind_some, bne_self_eq_false, cond_false, LQ w.free (show w.free.length < 1000000 by have := h3 w (List.mem_of_getElem? hw); omega), Bool.not_true, AX (show i < 1000000000 by omega)])
theorem AAQ (l : List Ag) (ks : List Int) (st : Int) : (Ka p l ks st).length <= 40 := by
 unfold Ka
 rw [List.length_map]
 exact Nat.le_trans (List.length_filter_le _ _) (by simp)
end
end Go.E
/- The example that the laws of timetables AJ at, reckoned by the kernel. No condition. -/
namespace Go.E
open Go Go.Proofs
set_option maxRecDepth 100000
theorem ABH : KX = some true := by kernel_rfl
end Go.E
/- Plain Lean: the laws WayStands, WayRoads, WayChecks answer true, for every argument. No condition. -/
namespace Go.E
open Go
structure ADN (p : AK) (d : Ac) (n : Az) (c : DX) : Prop where
 hv : BP p
 hN : Cp p = some (some n, 0)
 hn : Bf p n
 hL : LO p n
 plan : c.plan = p
 built : Kb p n c.roads
 hd : F3 d
section
variable {p : AK} {n : Az}
theorem Wp (hv : BP p) (hn : Bf p n) {l : List Ag} (hb : Kb p n l) : H6 l /\ KG p l := by
 have key : ∀ q ∈ l, ∃ (s : Nat) (r : Ag), r ∈ Ij p (s : Int) /\ TM p r q := fun q hq => by
  obtain ⟨s, r, -, h2, -, h4, -⟩ := hb.road hv hn hq
  exact ⟨s, r, h2, h4⟩
 have hne := hv.ne
 refine ⟨⟨hb.len, fun q hq => ?_, fun q hq => ?_⟩, ⟨fun q hq t ht => ?_, fun q hq e he => ?_⟩⟩
 .obtain ⟨s, r, h2, f⟩ := key q hq
  obtain ⟨_, _, _, _, a1, a2, _⟩ := JC (En h2).1
  rw [f.steps]; exact ⟨a1, a2⟩
 .obtain ⟨s, r, h2, f⟩ := key q hq
  have := f.zone.len
  omega
 .obtain ⟨s, r, h2, f⟩ := key q hq
  rw [f.steps] at ht
  have := Ju (YX h2 t ht)
  omega
 obtain ⟨s, r, h2, f⟩ := key q hq
 have := Ju (f.zone.rng e he)
 omega
theorem ABU (p : AK) : ∃ c b, Gt p = some (c, b) /\ (b = true -> ∃ n, BP p /\ Cp p = some (some n, 0) /\ Bf p n /\ c.plan = p /\ Kb p n c.roads) := by
 obtain ⟨b, h1, h2⟩ := Sg p
 unfold Gt
 simp only [h1, Option.bind_some]
 cases b with
 | false => exact ⟨_, false, rfl, by simp⟩
 | true =>
  have hv := h2 rfl
  obtain ⟨n, hN, hn⟩ := ZO p hv
  obtain ⟨c, e, e1, e2⟩ := AAR hv hN hn
  simp only [Bool.not_true, cond_false, e1, Option.bind_some]
  refine ⟨c, e == 0, rfl, fun h => ?_⟩
  have he : e = 0 := beq_iff_eq.1 h
  rcases e2 with ⟨_, g1, g2⟩ | h3
  .exact ⟨n, hv, hN, hn, g1, g2⟩
  omega
theorem ABV (p : AK) (d : Ac) : ∃ c o b, Ia p d = some (c, o, b) /\ (b = true -> ∃ n, o = some n /\ ADN p d n c /\ QB p d) := by
 unfold Ia
 obtain ⟨b0, f1, f2⟩ := Wg d
 simp only [f1, Option.bind_some]
 cases b0 with
 | false => exact ⟨_, none, false, rfl, by simp⟩
 | true =>
  have hd := f2 rfl
  obtain ⟨b1, h1, h2⟩ := Sg p
  simp only [Bool.not_true, cond_false, h1, Option.bind_some]
  cases b1 with
  | false => exact ⟨_, none, false, rfl, by simp⟩
  | true =>
   have hv := h2 rfl
   simp only [Bool.not_true, cond_false, Vl p hv.few hd, Option.bind_some]
   by_cases c0 : N6 p d = 0
   .obtain ⟨c, b, e1, e2⟩ := ABU p
    obtain ⟨n, hN, hn⟩ := ZO p hv
    have hm : I5 p = some (some n) := by
     unfold I5
     simp only [h1, hN, Option.bind_some, Bool.not_true, cond_false, JM, bne_self_eq_false]
    simp only [c0, bne_self_eq_false, cond_false, e1, hm, Option.bind_some, JM]
    refine ⟨c, some n, b, by cases b <;> rfl, fun hb => ?_⟩
    obtain ⟨m, g1, g2, g3, g4, g5⟩ := e2 hb
    rw [hN] at g2
    cases g2
    exact ⟨n, rfl, ⟨hv, hN, hn, ZV hv hN, g4, g5, hd⟩, ZU c0⟩
   have : (N6 p d != 0) = true := bne_iff_ne.2 c0
   rw [this]
   exact ⟨_, none, false, rfl, by simp⟩
theorem UQ (p : AK) (d : Ac) (run leg : Int) : Hz p d run leg = some true := by
 unfold Hz
 obtain ⟨c, o, b, h1, h2⟩ := ABV p d
 simp only [ABH, Option.bind_some, Bool.not_true, cond_false, h1]
 cases b with
 | false => cases o <;> rfl
 | true =>
  obtain ⟨n, rfl, a, hk⟩ := h2 rfl
  obtain ⟨hl, he⟩ := Wp a.hv a.hn a.built
  have r1 := Oq (p := p) (l := c.roads) (d := d) (run := run) (leg := leg)
  have r2 := hl.len
  have hc : Dp (MP p c.roads d run leg) (MP p c.roads d run leg) = some true := by
   unfold MP
   cases h : Ih d run leg with
   | none => rfl
   | some r =>
    have hr := (Ek h).1
    have hL := (a.hd.legs _ r (DM hr).1).1
    refine TL _ ?_ ?_ fun w hw => ?_
    .simp only [Tv]; split <;> simp
    .simp only [List.length_map, List.length_range]; omega
    obtain ⟨j, -, rfl⟩ := List.mem_map.1 hw
    have := AAQ (p := p) c.roads (DN p c.roads d run ((leg.toNat + j : Nat) : Int)) (BO p d run ((leg.toNat + j : Nat) : Int))
    show (Ka _ _ _ _).length <= 1000
    omega
  simp only [JM, Bool.not_true, cond_false, P7 a.hv a.hn a.hd hk.ix hl, P8 a.hv a.hd hk.ix hl, Option.bind_some, LQ (DN p c.roads d run leg) (by omega), cond_true, Vr a.hv a.hn a.hL a.hd hk hl he, Vn a.hv a.hd hk.ix hl he, hc]
end
end Go.E
