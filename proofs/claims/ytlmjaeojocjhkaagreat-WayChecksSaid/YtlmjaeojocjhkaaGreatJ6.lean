/- Plain Lean: where a run of a timetable stands ahead of a leg, and by which signal it goes: the program beside the document. No condition. -/
import Derived.KernelRfl
import Derived.Test.YtlmjaeojocjhkaaGreatJ5
set_option linter.unusedVariables false
set_option linter.unusedSimpArgs false
namespace Go.E
open Go
section
variable {p : AK} {n : A0}
theorem Pe (h : BY p n) (e : Int) : DM n e = some (C4 p e) := by
 unfold DM C4
 rw [U7 h]
 cases Aa p.elems e <;> rfl
theorem Xr (h : BY p n) (hf : Dl p) : B0 n = some p := by unfold B0; rw [h.plan, QC p hf]; rfl
structure F8 (d : AZ) : Prop where
 runs : d.runs.length <= 12
 stock : d.stock.length <= 10
 legs : ∀ (i : Nat) r, d.runs[i]? = some r -> r.legs.length <= 20 /\ r.name.size <= 100
 name : ∀ (i : Nat) s, d.stock[i]? = some s -> s.name.size <= 100
theorem WH (d : AZ) : ∃ b, Kq d = some b /\ (b = true -> F8 d) := by
 unfold Kq
 by_cases h1 : (10 : Int) < d.stock.length
 .exact ⟨false, by simp [h1], by simp⟩
 by_cases h2 : (12 : Int) < d.runs.length
 .exact ⟨false, by simp [h1, h2], by simp⟩
 simp only [h1, h2, decide_false, cond_false, Option.bind_some]
 refine Bx (l := d.runs) (fun _ r => r.legs.length <= 20 /\ r.name.size <= 100) (fun g1 => ?_) (fun i r hr _ => ?_)
 .simp only [JR, Bu, cond_false]
  obtain ⟨b, hb, hp⟩ : ∃ b, AR (HU d) 0 = some b /\ (b = true -> F8 d) := by
   refine Bx (l := d.stock) (fun _ s => s.name.size <= 100) (fun g2 => ?_) (fun i s hs _ => ?_)
   .exact ⟨true, by simp only [HU, Bu, cond_false], fun _ => ⟨by omega, by omega, g1, g2⟩⟩
   have := BW hs
   simp only [HU, BS hs, cond_true, Ak, hs, Option.bind_some]
   by_cases hn : (100 : Int) < s.name.size
   .exact .inl ⟨false, by simp [hn], by simp⟩
   exact .inr ⟨by simp [hn, AY (show i < 1000000000 by omega)], by omega⟩
  exact ⟨b, by rw [hb]; rfl, hp⟩
 have := BW hr
 simp only [JR, BS hr, cond_true, Ak, hr, Option.bind_some]
 by_cases hn : (20 : Int) < r.legs.length
 .exact .inl ⟨false, by simp [hn], by simp⟩
 by_cases hm : (100 : Int) < r.name.size
 .exact .inl ⟨false, by simp [hn, hm], by simp⟩
 exact .inr ⟨by simp [hn, hm, AY (show i < 1000000000 by omega)], by omega, by omega⟩
def D6 (p : AK) (s : Int) : Option AI := (Aa p.signals s).map (·.at_)
def Qy (p : AK) (e : Int) : AI := if (Ax p ⟨e, 0⟩).isSome = true /\ (Ax p ⟨e, 1⟩).isSome = false then ⟨e, 1⟩ else if (Ax p ⟨e, 1⟩).isSome = true /\ (Ax p ⟨e, 0⟩).isSome = false then ⟨e, 0⟩ else ⟨e, -1⟩
def Rx (p : AK) (l : Cm) : Option AI := if l.fin = 1 then D6 p l.to else if l.fin = 3 then some (Qy p l.to) else none
def G7 (p : AK) (r : CU) (leg : Int) : Option AI := if leg = 0 then D6 p r.frm else (Aa r.legs (leg - 1)).bind (Rx p)
def LG (d : AZ) (run leg : Int) : Option CU := (Aa d.runs run).bind fun r => if 0 <= leg /\ leg <= r.legs.length then some r else none
def MX (p : AK) (d : AZ) (run leg : Int) : Option AI := (LG d run leg).bind fun r => G7 p r leg
def Gb (p : AK) (d : AZ) (run leg : Int) : Int := ((MX p d run leg).map (·.elem)).getD (-1)
def Ys (p : AK) (h : AI) (t : Bool) : Int := if h.fin < 0 then -1 else if t = true then (if Ai p h.elem = 1 then A9 p ⟨h.elem, 1 - h.fin⟩ else -1) else A9 p h
def FO (p : AK) (d : AZ) (run leg : Int) : Int := ((LG d run leg).bind fun r => (G7 p r leg).bind fun h => (Aa r.legs leg).map fun x => Ys p h x.turn).getD (-1)
theorem I3 {d : AZ} {run leg : Int} {r : CU} (h : LG d run leg = some r) : Aa d.runs run = some r /\ 0 <= leg /\ leg <= r.legs.length /\ 0 <= run /\ run < d.runs.length := by
 unfold LG at h
 cases hi : Aa d.runs run with
 | none => rw [hi] at h; cases h
 | some q =>
  rw [hi] at h
  simp only [Option.bind_some] at h
  split at h
  .rename_i hc
   cases h
   have := QB hi
   exact ⟨rfl, hc.1, hc.2, this.1, this.2⟩
  cases h
theorem U8 (d : AZ) (run leg : Int) : ((bif decide (run < 0) then some true else bif decide ((d.runs.length : Int) <= run) then some true else bif decide (leg < 0) then some true else (Aa d.runs run).bind fun y38 => some (decide ((y38.legs.length : Int) < leg)) : Option (Bool))) = some (!(LG d run leg).isSome) := by
 unfold LG
 by_cases h1 : run < 0
 .simp [h1, B9 (.inl h1)]
 by_cases h2 : (d.runs.length : Int) <= run
 .simp [h1, h2, B9 (.inr h2)]
 obtain ⟨r, hr⟩ := EY (l := d.runs) (n := run) (by omega) (by omega)
 by_cases h3 : leg < 0
 .simp [h1, h2, h3, hr, show ¬ (0 <= leg) by omega]
 by_cases h4 : (r.legs.length : Int) < leg
 .simp [h1, h2, h3, hr, h4, show ¬ (leg <= (r.legs.length : Int)) by omega]
 simp [h1, h2, h3, hr, h4, show 0 <= leg by omega, show leg <= (r.legs.length : Int) by omega]
theorem U9 (p : AK) (s : Int) : H2 p s = some ((D6 p s).getD ⟨0, 0⟩, (D6 p s).isSome) := by
 rw [AAI]; unfold D6
 cases Aa p.signals s <;> rfl
theorem LO (hn : BY p n) (s : Int) : Cd n s = some ((D6 p s).getD ⟨0, 0⟩, (D6 p s).isSome) := by
 rw [TM hn]; unfold D6
 cases Aa p.signals s <;> rfl
theorem So {l : List Cm} {leg : Int} (h0 : leg ≠ 0) (h1 : 0 <= leg) (h2 : leg <= l.length) (hl : l.length <= 1000) : AO (leg - 1) = leg - 1 /\ ∃ x, Aa l (leg - 1) = some x := by
 rw [Bn (by omega) (by omega)]
 exact ⟨rfl, EY (by omega) (by omega)⟩
theorem Pf (hv : Bg p) {d : AZ} (hd : F8 d) (run leg : Int) : Gr p d run leg = some ((MX p d run leg).getD ⟨0, 0⟩, (MX p d run leg).isSome) := by
 have hj := hv.nj
 unfold Gr MX
 rw [U8]
 cases h : LG d run leg with
 | none => rfl
 | some r =>
  obtain ⟨hr, h1, h2, h3, h4⟩ := I3 h
  have hL := (hd.legs _ r (Ik hr).1).1
  simp only [Option.isSome_some, Bool.not_true, Option.bind_some, cond_false, hr, CS]
  unfold G7
  by_cases h0 : leg = 0
  .simp only [if_pos h0, U9, Option.bind_some]
  simp only [if_neg h0]
  obtain ⟨e, x, hx⟩ := So h0 h1 h2 (by omega)
  simp only [e, hx, Option.bind_some, Rx]
  by_cases f1 : x.fin = 1
  .simp only [if_pos f1, U9, Option.bind_some]
  simp only [if_neg f1]
  by_cases f3 : x.fin = 3
  .simp only [if_pos f3, Hk p (show p.joins.length < 1000000 by omega), Option.bind_some, Qy]
   cases (Ax p ⟨x.to, 0⟩).isSome <;> cases (Ax p ⟨x.to, 1⟩).isSome <;> rfl
  simp only [if_neg f3]; rfl
theorem Tt (hv : Bg p) {d : AZ} (hd : F8 d) (run leg : Int) : HW p d run leg = some (Gb p d run leg) := by
 unfold HW Gb
 rw [Pf hv hd]
 cases MX p d run leg <;> rfl
theorem Qz (hv : Bg p) {s : Int} {h : AI} (e : D6 p s = some h) : 0 <= h.fin /\ h.fin <= 3 := by
 unfold D6 at e
 obtain ⟨a, ha, rfl⟩ := Option.map_eq_some_iff.1 e
 have hh := hv.sig.has _ a (Ik ha).1
 unfold Cg at hh
 simp only [Bool.and_eq_true, decide_eq_true_eq] at hh
 have : CB (Ai p a.at_.elem) <= 4 := by unfold CB; repeat' split <;> omega
 omega
theorem VA (e : Int) : (Qy p e).elem = e /\ -1 <= (Qy p e).fin /\ (Qy p e).fin <= 1 := by
 unfold Qy
 repeat' split
 all_goals simp
theorem Yt (hv : Bg p) {r : CU} {leg : Int} {h : AI} (e : G7 p r leg = some h) : -1 <= h.fin /\ h.fin <= 3 := by
 unfold G7 at e
 split at e
 .have := Qz hv e; omega
 obtain ⟨x, hx, e⟩ := Option.bind_eq_some_iff.1 e
 unfold Rx at e
 split at e
 .have := Qz hv e; omega
 split at e
 .cases e
  have := VA (p := p) x.to; omega
 cases e
theorem Ry (hv : Bg p) (x : AI) : D3 p x = some (A9 p x) := by
 have := hv.ns
 exact K9 p (by omega) x
theorem WI (hv : Bg p) {d : AZ} (hd : F8 d) (run leg : Int) : JV p d run leg = some (FO p d run leg) := by
 unfold JV FO
 rw [Pf hv hd]
 unfold MX
 cases h : LG d run leg with
 | none => rfl
 | some r =>
  obtain ⟨hr, h1, h2, h3, h4⟩ := I3 h
  have hL := (hd.legs _ r (Ik hr).1).1
  simp only [Option.bind_some]
  cases hh : G7 p r leg with
  | none => rfl
  | some q =>
   have hf := Yt hv hh
   simp only [Option.isSome_some, Bool.not_true, cond_false, hr, Option.bind_some, Option.getD_some]
   by_cases c : (r.legs.length : Int) <= leg
   .simp only [c, decide_true, cond_true, Option.bind_some, B9 (.inr c), Option.map_none, Option.getD_none]
   obtain ⟨x, hx⟩ := EY (l := r.legs) (n := leg) h1 (by omega)
   simp only [c, decide_false, cond_false, Option.bind_some, hx, Option.map_some, Option.getD_some, Ys, Ry hv, Fs]
   by_cases f : q.fin < 0
   .simp only [f, decide_true, cond_true, if_true]
   simp only [f, decide_false, cond_false, if_false]
   rw [Bn (n := 1 - q.fin) (by omega) (by omega)]
   cases x.turn with
   | false => rfl
   | true =>
    simp only [cond_true, Fq, if_true]
    by_cases k : Ai p q.elem = 1
    .simp only [if_pos k]; rfl
    simp only [if_neg k]; rfl
theorem Qe (d : AZ) (run leg : Int) : F7 d run leg = some (((LG d run leg).map (·.legs)).getD [], (LG d run leg).isSome) := by
 unfold F7
 rw [U8]
 cases h : LG d run leg with
 | none => rfl
 | some r =>
  obtain ⟨hr, -⟩ := I3 h
  simp only [Option.isSome_some, Bool.not_true, Option.bind_some, cond_false, hr, Option.map_some, Option.getD_some]
theorem Zp (hn : BY p n) (s : Int) : Gt n s = some (((D6 p s).map (·.elem)).getD (-1)) := by
 unfold Gt Ix
 rw [LO hn]
 cases D6 p s <;> rfl
theorem Tu (hn : BY p n) {d : AZ} (hd : F8 d) (run leg : Int) : Cz n d run leg = some (Gb p d run leg) := by
 unfold Cz Gb MX
 rw [Qe]
 cases h : LG d run leg with
 | none => rfl
 | some r =>
  obtain ⟨hr, h1, h2, h3, h4⟩ := I3 h
  have hL := (hd.legs _ r (Ik hr).1).1
  simp only [Option.isSome_some, Bool.not_true, Option.bind_some, cond_false, hr, Option.map_some, Option.getD_some, CS, Zp hn]
  unfold G7
  by_cases h0 : leg = 0
  .simp only [if_pos h0]
  simp only [if_neg h0]
  obtain ⟨e, x, hx⟩ := So h0 h1 h2 (by omega)
  simp only [e, hx, Option.bind_some, Rx]
  by_cases f1 : x.fin = 1
  .simp only [if_pos f1]
  simp only [if_neg f1]
  by_cases f3 : x.fin = 3
  .simp only [if_pos f3, Option.map_some, Option.getD_some, (VA x.to).1]
  simp only [if_neg f3]; rfl
theorem VB (hv : Bg p) (hn : BY p n) {d : AZ} (hd : F8 d) {run leg : Int} {r : CU} (h : LG d run leg = some r) :
  ∃ q b, Ij n d run leg = some (q, b) /\ ((b = false /\ (G7 p r leg = none \/ ∃ x, G7 p r leg = some x /\ x.fin < 0)) \/ (b = true /\ G7 p r leg = some q /\ 0 <= q.fin /\ q.fin <= 3)) := by
 obtain ⟨hr, h1, h2, h3, h4⟩ := I3 h
 have hL := (hd.legs _ r (Ik hr).1).1
 have sg : ∀ s, ((D6 p s).isSome = false /\ (D6 p s = none \/ ∃ x, D6 p s = some x /\ x.fin < 0)) \/ ((D6 p s).isSome = true /\ D6 p s = some ((D6 p s).getD ⟨0, 0⟩) /\ 0 <= ((D6 p s).getD ⟨0, 0⟩).fin /\ ((D6 p s).getD ⟨0, 0⟩).fin <= 3) := fun s => by
  cases e : D6 p s with
  | none => exact .inl ⟨rfl, .inl rfl⟩
  | some q => exact .inr ⟨rfl, rfl, Qz hv e⟩
 unfold Ij
 simp only [hr, Option.bind_some, CS]
 unfold G7
 by_cases h0 : leg = 0
 .simp only [if_pos h0, LO hn, Option.bind_some]
  exact ⟨_, _, rfl, sg _⟩
 simp only [if_neg h0]
 obtain ⟨e, x, hx⟩ := So h0 h1 h2 (by omega)
 simp only [e, hx, Option.bind_some, Rx]
 by_cases f1 : x.fin = 1
 .simp only [if_pos f1, LO hn, Option.bind_some]
  exact ⟨_, _, rfl, sg _⟩
 simp only [if_neg f1]
 by_cases f3 : x.fin = 3
 .simp only [if_pos f3, J9 hn, Option.bind_some, Qy]
  cases (Ax p ⟨x.to, 0⟩).isSome <;> cases (Ax p ⟨x.to, 1⟩).isSome
  .exact ⟨_, _, rfl, .inl ⟨rfl, .inr ⟨_, rfl, by simp⟩⟩⟩
  .exact ⟨_, _, rfl, .inr ⟨rfl, rfl, by simp, by simp⟩⟩
  .exact ⟨_, _, rfl, .inr ⟨rfl, rfl, by simp, by simp⟩⟩
  exact ⟨_, _, rfl, .inl ⟨rfl, .inr ⟨_, rfl, by simp⟩⟩⟩
 simp only [if_neg f3]
 refine ⟨_, _, rfl, ?_⟩
 simp
theorem WJ (hv : Bg p) (hn : BY p n) {d : AZ} (hd : F8 d) (run leg : Int) : Hv n d run leg = some (FO p d run leg) := by
 unfold Hv FO
 rw [Qe]
 cases h : LG d run leg with
 | none => rfl
 | some r =>
  obtain ⟨hr, h1, h2, h3, h4⟩ := I3 h
  simp only [Option.isSome_some, Bool.not_true, Option.bind_some, cond_false, Option.map_some, Option.getD_some]
  by_cases c : leg = (r.legs.length : Int)
  .have : Aa r.legs leg = none := B9 (.inr (by omega))
   simp only [c, beq_self_eq_true, cond_true]
   rw [<- c, this]
   cases G7 p r leg <;> rfl
  obtain ⟨x, hx⟩ := EY (l := r.legs) (n := leg) h1 (by omega)
  obtain ⟨q, b, e1, e2⟩ := VB hv hn hd h
  simp only [beq_eq_false_iff_ne.2 c, cond_false, e1, Option.bind_some, hx, Option.map_some]
  rcases e2 with ⟨rfl, e2 | ⟨y, e2, e3⟩⟩ | ⟨rfl, e2, e3, e4⟩
  .rw [e2]; rfl
  .rw [e2]
   simp only [Bool.not_false, cond_true, Option.bind_some, Option.getD_some, Ys, if_pos e3]
  rw [e2]
  simp only [Bool.not_true, cond_false, Option.bind_some, Option.getD_some, Ys, if_neg (show ¬ q.fin < 0 by omega), Du hn, MY hn]
  rw [Bn (n := 1 - q.fin) (by omega) (by omega)]
  cases x.turn with
  | false => rfl
  | true =>
   simp only [cond_true, if_true]
   by_cases k : Ai p q.elem = 1
   .simp only [if_pos k, k]; rfl
   have hb : (Ai p q.elem != 1) = true := bne_iff_ne.2 k
   simp only [if_neg k, hb]; rfl
def Gc (p : AK) (r : CU) : FN := ⟨r.name, r.stock, (D6 p r.frm).getD ⟨0, 0⟩, if Ai p ((D6 p r.frm).getD ⟨0, 0⟩).elem = 4 then 0 else r.left⟩
def Il (p : AK) (d : AZ) (run : Int) : FN × Bool := match Aa d.runs run with
 | none => (⟨ByteArray.empty, 0, ⟨0, 0⟩, 0⟩, false)
 | some r => (Gc p r, true)
theorem Pg (p : AK) (d : AZ) (run : Int) : Gq p d run = some (Il p d run) := by
 unfold Gq Il
 by_cases h1 : run < 0
 .simp [h1, B9 (.inl h1)]
 by_cases h2 : (d.runs.length : Int) <= run
 .simp [h1, h2, B9 (.inr h2)]
 obtain ⟨r, hr⟩ := EY (l := d.runs) (n := run) (by omega) (by omega)
 simp only [h1, h2, decide_false, cond_false, Option.bind_some, hr, U9, Fs, CS, Gc]
 split <;> rfl
theorem VC (hn : BY p n) (d : AZ) (run : Int) : IZ n d run = some (Il p d run) := by
 unfold IZ Il
 by_cases h1 : run < 0
 .simp [h1, B9 (.inl h1)]
 by_cases h2 : (d.runs.length : Int) <= run
 .simp [h1, h2, B9 (.inr h2)]
 obtain ⟨r, hr⟩ := EY (l := d.runs) (n := run) (by omega) (by omega)
 simp only [h1, h2, decide_false, cond_false, Option.bind_some, hr, LO hn, Du hn, CS, Gc]
 split <;> rfl
end
end Go.E
/- Plain Lean: by which roads a leg of a timetable can be gone: the program beside the document. No condition. -/
namespace Go.E
open Go
def KA {α : Type} (f : α -> Bool) : Nat -> List α -> List Int
 | _, [] => []
 | i, a :: l => if f a = true then (i : Int) :: KA f (i + 1) l else KA f (i + 1) l
theorem VD {α : Type} (f : α -> Bool) (a : α) : ∀ (l : List α) (i : Nat), KA f i (l ++ [a]) = KA f i l ++ (if f a = true then [((i + l.length : Nat) : Int)] else [])
 | [], i => by simp [KA]
 | b :: l, i => by
  have ih := VD f a l (i + 1)
  simp only [List.cons_append, KA, ih, List.length_cons]
  rw [show i + 1 + l.length = i + (l.length + 1) by omega]
  split <;> simp
theorem VE {α : Type} (f : α -> Bool) : ∀ (l : List α) (i : Nat), (KA f i l).length <= l.length
 | [], i => by simp [KA]
 | b :: l, i => by
  have ih := VE f l (i + 1)
  simp only [KA, List.length_cons]
  split
  .simp only [List.length_cons]; omega
  omega
theorem VF {α β : Type} {l : List α} (f : α -> Bool) (hl : l.length <= 1000000) {step : Int × List Int -> Option ((Int × List Int) ⊕ β)} (fin : List Int -> β)
  (h0 : ∀ c, step ((l.length : Int), c) = some (.inr (fin c)))
  (h1 : ∀ (i : Nat) a c, l[i]? = some a -> c.length <= 1000000 -> step ((i : Int), c) = some (.inl (((i + 1 : Nat) : Int), if f a = true then c ++ [(i : Int)] else c))) : AR step (0, []) = some (fin (KA f 0 l)) := by
 obtain ⟨b, hb, rfl⟩ := CC (l := l) (step := step) (Post := fun b => b = fin (KA f 0 l)) (fun i c => c = KA f 0 (l.take i)) (fun c hc => ⟨_, h0 c, by rw [hc, List.take_length]⟩) (fun i a c ha hc => by
  have hi := BW ha
  have hlen : c.length <= 1000000 := by
   have := VE f (l.take i) 0
   rw [hc]; rw [List.length_take] at this; omega
  refine .inr ⟨_, h1 i a c ha hlen, ?_⟩
  rw [List.take_add_one, ha, Option.toList_some, VD, <- hc, List.length_take, Nat.min_eq_left (by omega)]
  split <;> simp) (c := []) rfl
 exact hb
theorem La {α β : Type} {l : List α} {step : Int -> Option (Int ⊕ β)} (bad : α -> Bool) (x : β) (fin : Option β) (h0 : step (l.length : Int) = fin.map .inr)
  (h1 : ∀ (i : Nat) a, l[i]? = some a -> step (i : Int) = bif bad a then some (.inr x) else some (.inl ((i + 1 : Nat) : Int))) : AR step 0 = if l.any bad = true then some x else fin := by
 refine Cr (γ := Unit) l (fun i _ => (i : Int)) (fun _ _ r => if r.any bad = true then some x else fin) (fun _ => ?_) (fun i _ a r ha hi => ?_) ()
 .rw [h0]; simp
 cases hb : bad a with
 | true => left; rw [h1 i a ha, hb]; simp [hb]
 | false => right; exact ⟨(), by rw [h1 i a ha, hb]; rfl, by simp [hb]⟩
section
variable {p : AK} {n : A0}
def Jk (r : Aj) : Int := ((r.steps.getLast?).map (·.elem)).getD 0
def Rz (r : Aj) (x : Cm) : Bool := (r.fin == x.fin) && (if x.fin = 1 then r.to == x.to else Jk r == x.to)
def MZ (p : AK) (s : BI) (e : Int) : Bool := if Ai p e = 4 then true else if Ai p e = 1 then decide (AO (s.len + p.margin) <= C4 p e) else false
def R0 (p : AK) (s : BI) (x : Cm) (frm stands : Int) (r : Aj) : Bool := (r.frm == frm) && (Rz r x && (!r.bare && (!decide (stands ∈ r.zone) && MZ p s (Jk r))))
def Xs (d : AZ) (run leg : Int) : Option (Cm × BI) := (Aa d.runs run).bind fun r => (Aa r.legs leg).bind fun x => (Aa d.stock r.stock).map fun s => (x, s)
def L7 (p : AK) (l : List Aj) (d : AZ) (run leg : Int) : List Int := if FO p d run leg < 0 then [] else match Xs d run leg with
 | none => []
 | some (x, s) => KA (R0 p s x (FO p d run leg) (Gb p d run leg)) 0 l
structure IC (l : List Aj) : Prop where
 len : l.length <= 64
 steps : ∀ r ∈ l, 1 <= r.steps.length /\ r.steps.length <= 12
 zone : ∀ r ∈ l, r.zone.length <= 1000
theorem Ph {l : List Ag} (h1 : 1 <= l.length) (h2 : l.length <= 1000) : ∃ s, Aa l (AO ((l.length : Int) - 1)) = some s /\ l.getLast? = some s := by
 rw [Bn (by omega) (by omega), show (l.length : Int) - 1 = ((l.length - 1 : Nat) : Int) by omega, Ak]
 exact ⟨l[l.length - 1]'(by omega), List.getElem?_eq_getElem _, by rw [List.getLast?_eq_getElem?]; exact List.getElem?_eq_getElem _⟩
theorem Tv (hn : BY p n) (hv : Bg p) (s : BI) (e : Int) : Hg n s e = some (MZ p s e) := by
 unfold Hg MZ
 simp only [Du hn, Pe hn, Xr hn hv.few, Option.bind_some, CS]
 split
 .rfl
 split <;> rfl
theorem WK (p : AK) (s : BI) (e : Int) : JW p s e = some (MZ p s e) := by
 unfold JW MZ
 simp only [Fs, J8, Option.bind_some, CS]
 by_cases h1 : Ai p e = 1
 .simp only [h1, show ¬ (1 : Int) = 4 by decide, if_false, if_true]
 simp only [if_neg h1]
 split <;> rfl
theorem WL {r : Aj} (h1 : 1 <= r.steps.length) (h2 : r.steps.length <= 12) (x : Cm) : Jg r x = some (Rz r x) := by
 obtain ⟨s, hs, hl⟩ := Ph h1 (by omega)
 have h0 : ((r.steps.length : Int) == 0) = false := beq_eq_false_iff_ne.2 (by omega)
 unfold Jg Rz Jk
 rw [hs, hl, h0]
 simp only [Fq, CS, Option.bind_some, Option.map_some, Option.getD_some]
 by_cases c : r.fin = x.fin
 .by_cases f : x.fin = 1 <;> simp [c, f]
 simp only [if_neg c, cond_true, Option.bind_some, beq_eq_false_iff_ne.2 c, Bool.false_and]
theorem TN {d : AZ} {run leg : Int} (h : 0 <= FO p d run leg) : ∃ r x q, LG d run leg = some r /\ Aa d.runs run = some r /\ Aa r.legs leg = some x /\ G7 p r leg = some q /\ FO p d run leg = Ys p q x.turn /\ Gb p d run leg = q.elem := by
 unfold FO at h ⊢
 unfold Gb MX
 cases h1 : LG d run leg with
 | none => rw [h1] at h; simp at h
 | some r =>
  rw [h1] at h
  simp only [Option.bind_some] at h ⊢
  cases h2 : G7 p r leg with
  | none => rw [h2] at h; simp at h
  | some q =>
   rw [h2] at h
   simp only [Option.bind_some] at h ⊢
   cases h3 : Aa r.legs leg with
   | none => rw [h3] at h; simp at h
   | some x => exact ⟨r, x, q, rfl, (I3 h1).1, h3, h2, rfl, rfl⟩
def ID (d : AZ) : Prop := ∀ (i : Nat) r, d.runs[i]? = some r -> 0 <= r.stock /\ r.stock < d.stock.length
theorem VG (hv : Bg p) (hn : BY p n) {d : AZ} (hd : F8 d) (hx : ID d) {l : List Aj} (hl : IC l) (run leg : Int) : E9 n l d run leg = some (L7 p l d run leg) := by
 have hll := hl.len
 unfold E9 L7
 simp only [WJ hv hn hd, Tu hn hd, Option.bind_some]
 by_cases c : FO p d run leg < 0
 .simp only [c, decide_true, cond_true, if_true, Option.bind_some]
 obtain ⟨r, x, q, h1, h2, h3, -, -, -⟩ := TN (p := p) (d := d) (run := run) (leg := leg) (by omega)
 obtain ⟨k1, k2⟩ := hx _ r (Ik h2).1
 obtain ⟨s, hs⟩ := EY (l := d.stock) (n := r.stock) k1 k2
 simp only [c, decide_false, cond_false, if_false, h2, Option.bind_some, show ¬ r.stock < 0 by omega, show ¬ (d.stock.length : Int) <= r.stock by omega, hs, Xs, h3, Option.map_some]
 exact VF (l := l) (R0 p s x (FO p d run leg) (Gb p d run leg)) (by omega) (fun c => c) (fun c => by simp only [IB, Bu, cond_false]) (fun i a c ha hc => by
  have hi := BW ha
  have hm := List.mem_of_getElem? ha
  obtain ⟨a1, a2⟩ := hl.steps a hm
  have a3 := hl.zone a hm
  obtain ⟨y, hy, hyl⟩ := Ph a1 (by omega)
  have el : y.elem = Jk a := by unfold Jk; rw [hyl]; rfl
  simp only [IB, BS ha, cond_true, Ak, ha, Option.bind_some, h2, h3, WL a1 a2, L8 a.zone (by omega), hy, Tv hn hv, el, AY (show i < 1000000000 by omega), Bt (show c.length + [(i : Int)].length <= 4294967296 by simp; omega)]
  unfold R0
  cases a.frm == FO p d run leg with
  | false => rfl
  | true => cases Rz a x with
   | false => rfl
   | true => cases a.bare with
    | true => rfl
    | false => cases decide (Gb p d run leg ∈ a.zone) with
     | true => rfl
     | false => cases MZ p s (Jk a) <;> rfl)
theorem VH (hv : Bg p) {d : AZ} (hd : F8 d) (hx : ID d) {l : List Aj} (hl : IC l) (run leg : Int) : Ie p l d run leg = some (L7 p l d run leg) := by
 have hll := hl.len
 unfold Ie L7
 simp only [WI hv hd, Option.bind_some]
 by_cases c : FO p d run leg < 0
 .simp only [c, decide_true, cond_true, if_true]
 obtain ⟨r, x, q, h1, h2, h3, -, -, -⟩ := TN (p := p) (d := d) (run := run) (leg := leg) (by omega)
 obtain ⟨k1, k2⟩ := hx _ r (Ik h2).1
 obtain ⟨s, hs⟩ := EY (l := d.stock) (n := r.stock) k1 k2
 simp only [c, decide_false, cond_false, if_false, h2, Option.bind_some, hs, Xs, h3, Option.map_some]
 exact VF (l := l) (R0 p s x (FO p d run leg) (Gb p d run leg)) (by omega) (fun c => c) (fun c => by simp only [H3, Bu, cond_false]) (fun i a c ha hc => by
  have hi := BW ha
  have hm := List.mem_of_getElem? ha
  obtain ⟨a1, a2⟩ := hl.steps a hm
  have a3 := hl.zone a hm
  obtain ⟨y, hy, hyl⟩ := Ph a1 (by omega)
  have el : y.elem = Jk a := by unfold Jk; rw [hyl]; rfl
  simp only [H3, BS ha, cond_true, Ak, ha, Option.bind_some, h2, hs, Tt hv hd, AAJ a.zone (by omega), hy, WK, el, AY (show i < 1000000000 by omega), Bt (show c.length + [(i : Int)].length <= 4294967296 by simp; omega)]
  unfold R0 Rz
  simp only [bne]
  by_cases f1 : x.fin = 1
  .simp only [f1, beq_self_eq_true, cond_true, if_true, Bool.not_true, cond_false]
   cases a.frm == FO p d run leg with
   | false => rfl
   | true => cases a.fin == 1 with
    | false => rfl
    | true => cases a.to == x.to with
     | false => rfl
     | true => cases a.bare with
      | true => rfl
      | false => cases decide (Gb p d run leg ∈ a.zone) with
       | true => rfl
       | false => cases MZ p s (Jk a) <;> rfl
  have f2 : (x.fin == 1) = false := beq_eq_false_iff_ne.2 f1
  simp only [f2, if_neg f1, cond_false, Bool.not_false, cond_true]
  cases a.frm == FO p d run leg with
  | false => rfl
  | true => cases a.fin == x.fin with
   | false => rfl
   | true => cases Jk a == x.to with
    | false => rfl
    | true => cases a.bare with
     | true => rfl
     | false => cases decide (Gb p d run leg ∈ a.zone) with
      | true => rfl
      | false => cases MZ p s (Jk a) <;> rfl)
end
end Go.E
/- Plain Lean: what is wrong with a timetable by itself: the program beside the document. No condition. -/
namespace Go.E
open Go
theorem AAo (s : ByteArray) (hs : s.size <= 1000) : ∃ b, CA s = some b /\ Cl s = some b := by
 obtain ⟨b, h1, h2⟩ := Ma s
 obtain ⟨c, h3, h4⟩ := G8 s hs
 refine ⟨b, h1, ?_⟩
 cases b with
 | true => exact Xt s (h2 rfl)
 | false => cases c with
  | false => exact h3
  | true =>
   have := Jl s (h4 rfl)
   rw [h1] at this; cases this
noncomputable def KT (s : ByteArray) : Bool := (CA s).getD false
theorem R1 (s : ByteArray) : CA s = some (KT s) := by
 obtain ⟨b, h, -⟩ := Ma s
 unfold KT; rw [h]; rfl
theorem VI (s : ByteArray) (hs : s.size <= 1000) : Cl s = some (KT s) := by
 obtain ⟨b, h1, h2⟩ := AAo s hs
 unfold KT; rw [h1, h2]; rfl
def CE (x lo hi : Int) : Bool := decide (lo <= x) && decide (x <= hi)
theorem R2 (a b : Bool) : ((bif a then some b else some false : Option Bool)) = some (a && b) := by cases a <;> rfl
theorem VJ (x m : Int) : D9 x m = some (CE x 1 m) := by unfold D9; rw [R2]; rfl
theorem WM (x lo hi : Int) : Dh x lo hi = some (CE x lo hi) := by unfold Dh; rw [R2]; rfl
theorem M3 (x lo hi : Int) : Ce x lo hi = some (CE x lo hi) := by unfold Ce; rw [R2]; rfl
theorem Gd (x m : Int) : CN x m = some (CE x 0 m) := by unfold CN; rw [R2]; rfl
noncomputable def Jm (s : BI) : Bool := KT s.name && (CE s.len 1 4000 && (CE s.top 1 60 && (CE s.acc 1 10 && CE s.brake 1 10)))
theorem VK (s : BI) : IX s = some (Jm s) := by
 unfold IX Jm
 simp only [R1, VJ, Option.bind_some]
 cases KT s.name <;> cases CE s.len 1 4000 <;> cases CE s.top 1 60 <;> cases CE s.acc 1 10 <;> rfl
theorem Xu (s : BI) (hs : s.name.size <= 1000) : Kr s = some (Jm s) := by
 unfold Kr Jm
 simp only [VI _ hs, WM, Option.bind_some]
 cases KT s.name <;> cases CE s.len 1 4000 <;> cases CE s.top 1 60 <;> cases CE s.acc 1 10 <;> rfl
def Hm {α : Type} (f : α -> α -> Bool) : List α -> List α -> Bool
 | _, [] => false
 | pre, a :: l => pre.any (fun b => f b a) || Hm f (pre ++ [a]) l
theorem Mb {α : Type} {l : List α} {i : Nat} {a : α} (h : l[i]? = some a) : l.take (i + 1) = l.take i ++ [a] := by
 rw [List.take_add_one, h]; rfl
theorem Pi {α : Type} {l : List α} {step : Int -> Option (Int ⊕ Int)} (f : α -> Bool) (hl : l.length < 1000000) (h0 : step (l.length : Int) = some (.inr (-1)))
  (h1 : ∀ (i : Nat) a, l[i]? = some a -> step (i : Int) = bif f a then some (.inr (i : Int)) else some (.inl ((i + 1 : Nat) : Int))) : ∃ t, AR step 0 = some t /\ decide (0 <= t) = l.any f := by
 refine ⟨((Bz (fun _ a => f a) 0 l).map fun i => (i : Int)).getD (-1), ?_, ?_⟩
 .rw [IE (fun _ a => f a) (fun i => (i : Int)) (some (-1)) h0 (fun i a ha => by rw [h1 i a ha]; cases f a <;> rfl)]
  cases Bz (fun _ a => f a) 0 l <;> rfl
 cases h : Bz (fun _ a => f a) 0 l with
 | none =>
  have := (M4 l 0).1 h
  have hf : l.any f = false := by
   rw [List.any_eq_false]
   intro a ha
   obtain ⟨k, hk⟩ := List.mem_iff_getElem?.1 ha
   rw [this k a hk]; simp
  rw [hf]; rfl
 | some j =>
  obtain ⟨k, a, -, h2, h3, -⟩ := (M5 l 0 j).1 h
  have ht : l.any f = true := List.any_eq_true.2 ⟨a, List.mem_of_getElem? h2, h3⟩
  rw [ht]
  simp
def DD (a b : BI) : Bool := a.name.toList == b.name.toList
def Jn (a b : CU) : Bool := a.name.toList == b.name.toList
noncomputable def Hn (l : List BI) : Int := if 4 < l.length then 3 else if l.any (fun s => !Jm s) = true then 1 else if Hm DD [] l = true then 4 else 0
theorem VL {α : Type} {l : List α} {i : Nat} (h : i <= l.length) : LC l 0 (i : Int) = some (l.take i) := by
 unfold LC
 rw [if_pos ⟨by omega, by omega, by omega⟩]
 simp
theorem Xv (l : List BI) (hl : l.length <= 1000) : AR (DK l) (0, 0) = some (if l.any (fun s => !Jm s) = true then 1 else if Hm DD [] l = true then 4 else 0) := by
 have key := Cr l (fun i (c : Int) => (c, (i : Int))) (fun i c r => some (if r.any (fun s => !Jm s) = true then 1 else if Hm DD (l.take i) r = true then (4 : Int) else c)) (step := DK l) (fun c => ?_) (fun i c a r ha hi => ?_) 0
 .exact key
 .simp only [DK, Bu, cond_false, List.any_nil, Hm]; rfl
 simp only [DK, BS ha, cond_true, Ak, ha, Option.bind_some, VK]
 cases hm : Jm a with
 | false => left; simp [hm, Cw]
 | true =>
  right
  have hlen : (l.take i).length = i := by rw [List.length_take]; omega
  refine ⟨if (l.take i).any (fun b => DD b a) = true then 4 else c, ?_, ?_⟩
  .have e : AR (DJ (c, (i : Int)) a (l.take i)) 0 = some (Sum.inl (if (l.take i).any (fun b => DD b a) = true then (4 : Int) else c)) := by
    have := Cr (γ := Unit) (l.take i) (fun k _ => (k : Int)) (fun _ _ r => some (Sum.inl (β := (Int × Int) ⊕ Int) (if r.any (fun b => DD b a) = true then (4 : Int) else c))) (step := DJ (c, (i : Int)) a (l.take i)) (fun _ => by simp only [DJ, Bu, cond_false]; rfl) (fun k _ b r hb hk => by
     simp only [DJ, BS hb, cond_true, Ak, hb, Option.bind_some]
     cases hs : (b.name.toList == a.name.toList) with
     | true => left; simp [DD, hs]
     | false => right; exact ⟨(), by simp [AY (show k < 1000000000 by omega)], by simp [DD, hs]⟩) ()
    exact this
   simp only [Bool.not_true, cond_false, VL (show i <= l.length by omega), Option.bind_some, e, Cw, AY (show i < 1000000000 by omega)]
  simp only [List.any_cons, hm, Bool.not_true, Bool.false_or, Hm, <- Mb ha]
  cases r.any (fun s => !Jm s) with
  | true => rfl
  | false =>
   cases (l.take i).any (fun b => DD b a) with
   | false => rfl
   | true => cases Hm DD (l.take (i + 1)) r <;> rfl
theorem Sp (l : List BI) : GQ l = some (Hn l) := by
 unfold GQ Hn
 by_cases h : 4 < l.length
 .simp only [show (4 : Int) < (l.length : Int) by omega, decide_true, cond_true, h, if_true]
 simp only [show ¬ (4 : Int) < (l.length : Int) by omega, decide_false, cond_false, h, if_false]
 exact Xv l (by omega)
theorem ABb (l : List BI) (hl : l.length <= 1000) {i : Nat} {a : BI} (ha : l[i]? = some a) : ∃ t, JT l a.name = some t /\ ((t != (i : Int)) = (l.take i).any fun b => DD b a) := by
 unfold JT
 rw [IE (l := l) (fun _ b => DD b a) (fun i => (i : Int)) (some (-1)) (by simp [Iu]) (fun k b hb => by
  have := BW hb
  simp only [Iu, BS hb, cond_true, Ak, hb, Option.bind_some, AY (show k < 1000000000 by omega)]
  show _ = if DD b a = true then _ else _
  unfold DD
  cases b.name.toList == a.name.toList <;> rfl)]
 have hi := BW ha
 have self : DD a a = true := by unfold DD; simp
 cases h : Bz (fun _ b => DD b a) 0 l with
 | none =>
  have := (M4 l 0).1 h i a ha
  rw [self] at this; cases this
 | some j =>
  obtain ⟨k, b, h1, h2, h3, h4⟩ := (M5 l 0 j).1 h
  refine ⟨(j : Int), rfl, ?_⟩
  have hjk : j = k := by omega
  subst hjk
  by_cases e : j = i
  .subst e
   have : (l.take j).any (fun b => DD b a) = false := by
    rw [List.any_eq_false]
    intro c hc
    obtain ⟨m, hm⟩ := List.mem_iff_getElem?.1 hc
    have hml : m < j := by
     have := BW hm; rw [List.length_take] at this; omega
    rw [List.getElem?_take_of_lt hml] at hm
    have := h4 m c hml hm
    simp [this]
   rw [this]; simp
  have hlt : j < i := by
   by_cases hl : i < j
   .have := h4 i a hl ha
    rw [self] at this; cases this
   omega
  have : (l.take i).any (fun b => DD b a) = true := List.any_eq_true.2 ⟨b, List.mem_of_getElem? (i := j) (by rw [List.getElem?_take_of_lt hlt]; exact h2), h3⟩
  rw [this, bne_iff_ne]
  omega
theorem VM (l : List BI) (hn : ∀ (i : Nat) s, l[i]? = some s -> s.name.size <= 1000) : Ia l = some (Hn l) := by
 unfold Ia Hn
 by_cases h : 4 < l.length
 .simp only [show (4 : Int) < (l.length : Int) by omega, decide_true, cond_true, h, if_true]
 simp only [show ¬ (4 : Int) < (l.length : Int) by omega, decide_false, cond_false, h, if_false]
 rw [La (l := l) (fun s => !Jm s) 1 (some (if Hm DD [] l = true then 4 else 0)) (by
  simp only [Hw, Bu, cond_false]
  have := Cr (γ := Unit) l (fun k _ => (k : Int)) (fun i _ r => some (if Hm DD (l.take i) r = true then (4 : Int) else 0)) (step := EH l) (fun _ => by simp only [EH, Bu, cond_false]; rfl) (fun i _ a r ha hi => by
   obtain ⟨t, h1, h2⟩ := ABb l (by omega) ha
   simp only [EH, BS ha, cond_true, Ak, ha, Option.bind_some, h1, h2, Hm, <- Mb ha]
   cases (l.take i).any (fun b => DD b a) with
   | true => left; rfl
   | false => right; exact ⟨(), by simp [AY (show i < 1000000000 by omega)], by simp⟩) ()
  rw [show AR (EH l) 0 = _ from this]; rfl) (fun i a ha => by
  have := BW ha
  simp only [Hw, BS ha, cond_true, Ak, ha, Option.bind_some, Xu a (hn i a ha), AY (show i < 1000000000 by omega)])]
 split <;> rfl
def QD (p : AK) (s : BI) : Bool := decide (p.top < s.top) || decide (s.brake < p.brake)
noncomputable def Ge (p : AK) (l : List BI) : Int := if Hn l = 0 then (if l.any (QD p) = true then 9 else 0) else Hn l
theorem Yu (a b : Bool) : ((bif a then some true else some b : Option Bool)) = some (a || b) := by cases a <;> rfl
theorem R3 {l : List BI} (h : Hn l = 0) : l.length <= 4 := by
 unfold Hn at h
 split at h
 .omega
 omega
theorem Sq (p : AK) (l : List BI) : GR p l = some (Ge p l) := by
 unfold GR Ge
 simp only [Sp, Option.bind_some, Fq]
 by_cases h : Hn l = 0
 .have := R3 h
  rw [if_pos h, if_pos h]
  obtain ⟨t, h1, h2⟩ := Pi (l := l) (QD p) (by omega) (step := EU p l) (by simp [EU]) (fun i a ha => by
   have := BW ha
   simp only [EU, G2, BS ha, cond_true, Ak, ha, Option.bind_some, Yu, QD, AY (show i < 1000000000 by omega)])
  rw [h1]
  simp only [Option.bind_some, h2]
  cases l.any (QD p) <;> rfl
 rw [if_neg h, if_neg h]
theorem VN (p : AK) (l : List BI) (hn : ∀ (i : Nat) s, l[i]? = some s -> s.name.size <= 1000) : Ib p l = some (Ge p l) := by
 unfold Ib Ge
 simp only [VM l hn, Option.bind_some, Fq]
 by_cases h : Hn l = 0
 .have := R3 h
  rw [if_pos h, if_pos h]
  rw [La (l := l) (QD p) 9 (some 0) (by simp [Hx]) (fun i a ha => by
   have := BW ha
   simp only [Hx, BS ha, cond_true, Ak, ha, Option.bind_some, Yu, QD, AY (show i < 1000000000 by omega)])]
  split <;> rfl
 rw [if_neg h, if_neg h]
theorem Yv {p : AK} {l : List BI} (h : Ge p l = 0) : ∀ s ∈ l, Jm s = true := by
 unfold Ge at h
 split at h
 .rename_i hw
  unfold Hn at hw
  split at hw
  .cases hw
  split at hw
  .cases hw
  rename_i hm
  intro s hs
  have : l.any (fun s => !Jm s) = false := by simpa using hm
  have := List.any_eq_false.1 this s hs
  have : Jm s = true := by simpa using this
  exact this
 rename_i hw; exact absurd h hw
end Go.E
/- Plain Lean: what is wrong with a timetable on a plan: the program beside the document. No condition. -/
namespace Go.E
open Go
def Ku (p : AK) (x : Cm) : Bool := if x.fin = 1 then CE x.to 0 ((p.signals.length : Int) - 1) else if x.fin = 2 then Ai p x.to == 4 else if x.fin = 3 then Ai p x.to == 1 else false
theorem R4 (p : AK) (hp : p.elems.length <= 1000) (e : Int) : EG p e = some (Ai p e) := by
 unfold EG Ai
 rw [Gd, Bn (by omega) (by omega)]
 unfold CE
 by_cases h1 : 0 <= e
 .by_cases h2 : e <= (p.elems.length : Int) - 1
  .obtain ⟨a, ha⟩ := EY (l := p.elems) (n := e) h1 (by omega)
   simp [h1, h2, ha]
  simp [h1, h2, B9 (.inr (show (p.elems.length : Int) <= e by omega))]
 simp [h1, B9 (.inl (show e < 0 by omega))]
theorem Q0 (p : AK) (hf : Dl p) (x : Cm) : Eo p x = some (Ku p x) := by
 have h1 := hf.elems; have h2 := hf.signals
 unfold Eo Ku
 simp only [CS, Gd, R4 p (by omega), Option.bind_some, Bn (n := (p.signals.length : Int) - 1) (by omega) (by omega)]
 split
 .rfl
 split
 .rfl
 split <;> rfl
def G9 (p : AK) : Int -> List Cm -> Bool
 | _, [] => true
 | c, x :: l => (CE x.at_ c 2000 && Ku p x) && G9 p x.at_ l
theorem Yw (p : AK) (hf : Dl p) (r : CU) (hl : r.legs.length <= 1000) : AR (DL p r) (0, 0) = some (G9 p 0 r.legs) := by
 have key := El (step := DL p r) (Post := fun b => b = G9 p 0 r.legs) (fun k s => s.2 = (k : Int) /\ k <= r.legs.length /\ 0 <= s.1 /\ G9 p 0 r.legs = G9 p s.1 (r.legs.drop k)) r.legs.length (s := (0, 0)) (by
  rintro k ⟨c, s2⟩ ⟨e, hk, hc, hL⟩
  simp only at e hc hL
  subst e
  by_cases he : k = r.legs.length
  .subst he
   left
   refine ⟨true, by simp only [DL, Bu, cond_false], ?_⟩
   rw [hL, List.drop_length]; rfl
  have hk' : k < r.legs.length := by omega
  have ha : r.legs[k]? = some r.legs[k] := List.getElem?_eq_getElem hk'
  have hd : r.legs.drop k = r.legs[k] :: r.legs.drop (k + 1) := List.drop_eq_getElem_cons hk'
  generalize r.legs[k] = x at ha hd
  simp only [DL, BS ha, cond_true, Ak, ha, Option.bind_some, Gd, Q0 p hf, AY (show k < 1000000000 by omega)]
  have hs : ∀ r, G9 p c (x :: r) = ((CE x.at_ c 2000 && Ku p x) && G9 p x.at_ r) := fun _ => rfl
  rw [hd, hs] at hL
  have hr : CE x.at_ c 2000 = (CE x.at_ 0 2000 && !decide (x.at_ < c)) := by
   unfold CE
   by_cases q1 : c <= x.at_
   .simp [q1, show ¬ x.at_ < c by omega, show 0 <= x.at_ by omega]
   simp [q1, show x.at_ < c by omega]
  rw [hr] at hL
  cases h1 : CE x.at_ 0 2000 with
  | false => left; rw [h1] at hL; exact ⟨false, by simp, by rw [hL]; rfl⟩
  | true =>
   cases h2 : decide (x.at_ < c) with
   | true => left; rw [h1, h2] at hL; exact ⟨false, by simp, by rw [hL]; rfl⟩
   | false =>
    cases h3 : Ku p x with
    | false => left; rw [h1, h2, h3] at hL; exact ⟨false, by simp, by rw [hL]; rfl⟩
    | true =>
     right
     rw [h1, h2, h3] at hL
     refine ⟨hk', (x.at_, ((k + 1 : Nat) : Int)), by simp, rfl, by omega, ?_, by rw [hL]; rfl⟩
     unfold CE at h1
     simp only [Bool.and_eq_true, decide_eq_true_eq] at h1
     exact h1.1) ⟨rfl, Nat.zero_le _, Int.le_refl _, rfl⟩
 obtain ⟨b, hb, rfl⟩ := key
 exact hb
theorem Zq (p : AK) (hf : Dl p) (l : List Cm) (hl : l.length <= 1000) : JU p l = some (G9 p 0 l) := by
 have q := hf.signals
 unfold JU
 have key := Cr l (fun i (c : Int) => (c, (i : Int))) (fun i c r => some (G9 p c r)) (step := GV p l) (fun c => ?_) (fun i c a r ha hi => ?_) 0
 .exact key
 .simp only [GV, Bu, cond_false]; rfl
 simp only [GV, BS ha, cond_true, Ak, ha, Option.bind_some, M3, Fs, CS, Fq, G9, Ku, Bn (n := (p.signals.length : Int) - 1) (by omega) (by omega)]
 cases h1 : CE a.at_ c 2000 with
 | false => left; simp [Cw]
 | true =>
  have w : AO ((i : Int) + 1) = ((i + 1 : Nat) : Int) := AY (by omega)
  by_cases f1 : a.fin = 1
  .simp only [if_pos f1]
   cases h2 : CE a.to 0 ((p.signals.length : Int) - 1) with
   | false => left; simp [Cw]
   | true => right; exact ⟨a.at_, by simp [Cw, w], by simp⟩
  simp only [if_neg f1]
  by_cases f2 : a.fin = 2
  .simp only [if_pos f2]
   by_cases k : Ai p a.to = 4
   .right; exact ⟨a.at_, by simp [Cw, w, k], by simp [k]⟩
   left; simp [Cw, k]
  simp only [if_neg f2]
  by_cases f3 : a.fin = 3
  .simp only [if_pos f3]
   by_cases k : Ai p a.to = 1
   .right; exact ⟨a.at_, by simp [Cw, w, k], by simp [k]⟩
   left; simp [Cw, k]
  left; simp [Cw, f3]
noncomputable def L9 (p : AK) (d : AZ) (r : CU) : Bool := KT r.name && (CE r.stock 0 ((d.stock.length : Int) - 1) && (CE r.frm 0 ((p.signals.length : Int) - 1) && (CE r.left 0 4000 && G9 p 0 r.legs)))
theorem Sr (p : AK) (hf : Dl p) {d : AZ} (hd : d.stock.length <= 1000) (r : CU) (hl : r.legs.length <= 1000) : GS p d r = some (L9 p d r) := by
 have q := hf.signals
 unfold GS L9
 simp only [R1, Gd, Option.bind_some, Yw p hf r hl, Bn (n := (p.signals.length : Int) - 1) (by omega) (by omega), Bn (n := (d.stock.length : Int) - 1) (by omega) (by omega)]
 cases KT r.name <;> cases CE r.stock 0 ((d.stock.length : Int) - 1) <;> cases CE r.frm 0 ((p.signals.length : Int) - 1) <;> cases CE r.left 0 4000 <;> rfl
def Mc (r : CU) : Bool := decide (12 < (r.legs.length : Int))
noncomputable def Gf (p : AK) (d : AZ) : Int := if 8 < d.runs.length then 3 else if d.runs.any Mc = true then 3 else if Ge p d.stock = 0 then (if CE d.begin 0 86399 = true then (if d.runs.any (fun r => !L9 p d r) = true then 1 else if Hm Jn [] d.runs = true then 4 else 0) else 1) else Ge p d.stock
theorem Q1 (p : AK) (hf : Dl p) {d : AZ} (hd : F8 d) : Ep p d = some (Gf p d) := by
 have d1 := hd.runs; have d2 := hd.stock
 unfold Ep Gf
 by_cases c1 : 8 < d.runs.length
 .simp only [show (8 : Int) < (d.runs.length : Int) by omega, decide_true, cond_true, c1, if_true, Option.bind_some]
 simp only [show ¬ (8 : Int) < (d.runs.length : Int) by omega, decide_false, cond_false, c1, if_false]
 obtain ⟨t, h1, h2⟩ := Pi (l := d.runs) Mc (by omega) (step := Dd d) (by simp [Dd]) (fun i a ha => by
  have := BW ha
  simp only [Dd, FK, BS ha, cond_true, Ak, ha, Option.bind_some, Mc, AY (show i < 1000000000 by omega)])
 rw [h1]
 simp only [Option.bind_some, h2]
 cases d.runs.any Mc with
 | true => rfl
 | false =>
  simp only [cond_false, Sq, Option.bind_some, Fq, Bool.false_eq_true, if_false]
  by_cases c2 : Ge p d.stock = 0
  .rw [if_pos c2, if_pos c2]
   simp only [Gd, Option.bind_some]
   cases CE d.begin 0 86399 with
   | false => rfl
   | true =>
    obtain ⟨t, h3, h4⟩ := Pi (l := d.runs) (fun r => !L9 p d r) (by omega) (step := De p d) (by simp [De]) (fun i a ha => by
     have := BW ha
     have hal := (hd.legs i a ha).1
     simp only [De, FL, BS ha, cond_true, Ak, ha, Option.bind_some, Sr p hf (show d.stock.length <= 1000 by omega) a (by omega), AY (show i < 1000000000 by omega)])
    rw [h3]
    simp only [Bool.not_true, cond_false, Option.bind_some, h4, if_true]
    cases d.runs.any (fun r => !L9 p d r) with
    | true => rfl
    | false =>
     simp only [cond_false, Bool.false_eq_true, if_false]
     have := Cr (γ := Unit) d.runs (fun k _ => (k : Int)) (fun i _ r => some (if Hm Jn (d.runs.take i) r = true then (4 : Int) else 0)) (step := Dg d) (fun _ => by simp only [Dg, Bu, cond_false]; rfl) (fun i _ a r ha hi => by
      have hlen : (d.runs.take i).length = i := by rw [List.length_take]; omega
      obtain ⟨t, h5, h6⟩ := Pi (l := d.runs.take i) (fun b => Jn b a) (by omega) (step := Df a (d.runs.take i)) (by simp [Df]) (fun k b hb => by
       have := BW hb
       simp only [Df, FM, BS hb, cond_true, Ak, hb, Option.bind_some, Jn, AY (show k < 1000000000 by omega)])
      simp only [Dg, BS ha, cond_true, Ak, ha, Option.bind_some, VL (show i <= d.runs.length by omega), h5, h6, Hm, <- Mb ha]
      cases (d.runs.take i).any (fun b => Jn b a) with
      | true => left; rfl
      | false => right; exact ⟨(), by simp [AY (show i < 1000000000 by omega)], by simp⟩) ()
     exact this
  rw [if_neg c2, if_neg c2]
theorem VO (p : AK) (hf : Dl p) {d : AZ} (hd : F8 d) : Ic p d = some (Gf p d) := by
 have d1 := hd.runs; have d2 := hd.stock; have q := hf.signals
 unfold Ic Gf
 by_cases c1 : 8 < d.runs.length
 .simp only [show (8 : Int) < (d.runs.length : Int) by omega, decide_true, cond_true, c1, if_true]
 simp only [show ¬ (8 : Int) < (d.runs.length : Int) by omega, decide_false, cond_false, c1, if_false]
 refine La (l := d.runs) Mc 3 (some (if Ge p d.stock = 0 then (if CE d.begin 0 86399 = true then (if d.runs.any (fun r => !L9 p d r) = true then 1 else if Hm Jn [] d.runs = true then 4 else 0) else 1) else Ge p d.stock)) ?_ (fun i a ha => by
  have := BW ha
  simp only [H0, BS ha, cond_true, Ak, ha, Option.bind_some, Mc, AY (show i < 1000000000 by omega)]) |>.trans ?_
 .simp only [H0, Bu, cond_false, VN p d.stock (fun i s hs => by have := hd.name i s hs; omega), Option.bind_some, Fq, M3]
  by_cases c2 : Ge p d.stock = 0
  .rw [if_pos c2, if_pos c2]
   cases CE d.begin 0 86399 with
   | false => rfl
   | true =>
    simp only [Bool.not_true, cond_false, if_true]
    rw [La (l := d.runs) (fun r => !L9 p d r) 1 (some (if Hm Jn [] d.runs = true then 4 else 0)) (by
     simp only [Hz, Bu, cond_false]
     have := Cr (γ := Unit) d.runs (fun k _ => (k : Int)) (fun i _ r => some (if Hm Jn (d.runs.take i) r = true then (4 : Int) else 0)) (step := EI d) (fun _ => by simp only [EI, Bu, cond_false]; rfl) (fun i _ a r ha hi => by
      have hlen : (d.runs.take i).length = i := by rw [List.length_take]; omega
      simp only [EI, BS ha, cond_true, Ak, ha, Option.bind_some, VL (show i <= d.runs.length by omega)]
      rw [La (l := d.runs.take i) (fun b => Jn b a) (.inr 4) (some (.inl ((i + 1 : Nat) : Int))) (by simp only [Hy, Bu, cond_false, AY (show i < 1000000000 by omega)]; rfl) (fun k b hb => by
       have := BW hb
       simp only [Hy, BS hb, cond_true, Ak, hb, Option.bind_some, Jn, AY (show k < 1000000000 by omega)]
       rw [BEq.comm (a := a.name.toList)])]
      simp only [Hm, <- Mb ha]
      cases (d.runs.take i).any (fun b => Jn b a) with
      | true => left; rfl
      | false => right; exact ⟨(), by simp, by simp⟩) ()
     rw [show AR (EI d) 0 = _ from this]; rfl) (fun i a ha => by
     have := BW ha
     obtain ⟨hal, han⟩ := hd.legs i a ha
     simp only [Hz, BS ha, cond_true, Ak, ha, Option.bind_some, VI a.name (show a.name.size <= 1000 by omega), M3, Zq p hf a.legs (by omega), L9, AY (show i < 1000000000 by omega), Bn (n := (p.signals.length : Int) - 1) (by omega) (by omega), Bn (n := (d.stock.length : Int) - 1) (by omega) (by omega)]
     cases KT a.name <;> cases CE a.stock 0 ((d.stock.length : Int) - 1) <;> cases CE a.frm 0 ((p.signals.length : Int) - 1) <;> cases CE a.left 0 4000 <;> rfl)]
    split <;> rfl
  rw [if_neg c2, if_neg c2]
 split <;> rfl
structure ABc (p : AK) (d : AZ) : Prop where
 ix : ID d
 stock : ∀ s ∈ d.stock, Jm s = true
 runs : d.runs.length <= 8
 legs : ∀ (i : Nat) r, d.runs[i]? = some r -> r.legs.length <= 12
 frm : ∀ (i : Nat) r, d.runs[i]? = some r -> 0 <= r.frm /\ r.frm < p.signals.length
 leads : ∀ (i : Nat) r, d.runs[i]? = some r -> ∀ x ∈ r.legs, Ku p x = true
theorem Qf {p : AK} : ∀ {l : List Cm} {c : Int}, G9 p c l = true -> ∀ x ∈ l, Ku p x = true
 | [], _, _, x, hx => by cases hx
 | y :: l, c, h, x, hx => by
  unfold G9 at h
  simp only [Bool.and_eq_true] at h
  rcases List.mem_cons.1 hx with rfl | hx
  .exact h.1.2
  exact Qf h.2 x hx
theorem TO {p : AK} {d : AZ} (h : Gf p d = 0) : ABc p d := by
 unfold Gf at h
 split at h
 .cases h
 rename_i c1
 split at h
 .cases h
 rename_i c2
 split at h
 .rename_i c3
  split at h
  .split at h
   .cases h
   rename_i c4
   have c4' : d.runs.any (fun r => !L9 p d r) = false := by simpa using c4
   have hb : ∀ r ∈ d.runs, L9 p d r = true := fun r hr => by simpa using List.any_eq_false.1 c4' r hr
   have hq : ∀ (i : Nat) r, d.runs[i]? = some r -> (0 <= r.stock /\ r.stock <= (d.stock.length : Int) - 1) /\ (0 <= r.frm /\ r.frm <= (p.signals.length : Int) - 1) /\ G9 p 0 r.legs = true := fun i r hr => by
    have := hb r (List.mem_of_getElem? hr)
    unfold L9 CE at this
    simp only [Bool.and_eq_true, decide_eq_true_eq] at this
    exact ⟨this.2.1, this.2.2.1, this.2.2.2.2⟩
   refine ⟨fun i r hr => by have := (hq i r hr).1; omega, Yv c3, by omega, fun i r hr => ?_, fun i r hr => by have := (hq i r hr).2.1; omega, fun i r hr => Qf (hq i r hr).2.2⟩
   have c2' : d.runs.any Mc = false := by simpa using c2
   have := List.any_eq_false.1 c2' r (List.mem_of_getElem? hr)
   unfold Mc at this
   simp only [decide_eq_true_eq] at this
   omega
  cases h
 rename_i c3; exact absurd h c3
end Go.E
/- Plain Lean: which timetables can be gone: the program beside the document. No condition. -/
namespace Go.E
open Go
section
variable {p : AK} {n : A0}
theorem WN (hn : BY p n) (x : AI) : Gl n x = some (Cg p x) := by
 unfold Gl Cg
 by_cases h : 0 <= x.fin
 .simp only [h, decide_true, cond_true, Du hn, Option.bind_some, J7, Bool.true_and]
 simp only [h, decide_false, cond_false, Option.bind_some, Bool.false_and]
theorem Zr (ha : Md p) (e : Int) : 0 <= C4 p e /\ C4 p e <= 4000 /\ (Ai p e = 4 -> C4 p e = 0) := by
 unfold C4 Ai
 cases hi : Aa p.elems e with
 | none => simp
 | some a =>
  have h := ha.elem _ a (Ik hi).1
  simp only [Option.map_some, Option.getD_some]
  have h4 : a.kind = 4 -> a.length = 0 := h.gate
  by_cases k : a.kind = 4
  .have := h4 k; omega
  have := h.len k; omega
theorem AAp (hn : BY p n) (hv : Bg p) (len : Int) (t : FN) : ∃ b e, FX n len t = some (b, e) /\ FC p len t = some (b, e) /\ (e = 0 -> b.trail = [t.at_] /\ (Ai p t.at_.elem = 4 \/ Ai p t.at_.elem = 1)) := by
 obtain ⟨l1, l2, l3⟩ := Zr hv.args t.at_.elem
 have href' : ((bif decide (t.at_.fin < 0) then some true else (En (Ai p t.at_.elem)).bind fun y => some (decide (y <= t.at_.fin)) : Option Bool)) = some (!Cg p t.at_) := by
  rw [Jj]
  unfold Cg
  by_cases h1 : t.at_.fin < 0
  .simp [h1, show ¬ 0 <= t.at_.fin by omega]
  by_cases h2 : t.at_.fin < CB (Ai p t.at_.elem)
  .simp [h1, h2, show 0 <= t.at_.fin by omega, show ¬ CB (Ai p t.at_.elem) <= t.at_.fin by omega]
  simp [h1, h2, show 0 <= t.at_.fin by omega, show CB (Ai p t.at_.elem) <= t.at_.fin by omega]
 unfold FX FC
 simp only [Du hn, Pe hn, Fs, J8, Option.bind_some, WN hn, href', Fq, CS, MY hn, Ry hv]
 by_cases c1 : len < 1
 .exact ⟨⟨0, [], 0, 0, 0⟩, 1, by simp [c1], by simp [c1], by simp⟩
 by_cases c2 : 4000 < len
 .exact ⟨⟨0, [], 0, 0, 0⟩, 1, by simp [c1, c2], by simp [c1, c2], by simp⟩
 simp only [c1, c2, decide_false, cond_false]
 by_cases k4 : Ai p t.at_.elem = 4
 .simp only [if_pos k4, k4, show ¬ (4 : Int) = 1 by decide, if_false, Option.bind_some]
  cases hh : Cg p t.at_ with
  | false => exact ⟨⟨0, [], 0, 0, 0⟩, 1, by simp, by simp, by simp⟩
  | true =>
   simp only [Bool.not_true, cond_false]
   by_cases r : A9 p t.at_ < 0
   .exact ⟨⟨0, [], 0, 0, 0⟩, 7, by simp [r], by simp [r], by simp⟩
   simp only [r, decide_false, cond_false]
   rw [l3 k4]
   by_cases e : t.left = 0
   .refine ⟨⟨1, [t.at_], 0, 0, 0⟩, 0, ?_, ?_, by simp⟩
    .simp [e]
    simp [e]
   refine ⟨⟨0, [], 0, 0, 0⟩, 1, ?_, ?_, by simp⟩
   .simp [e]
   by_cases e1 : t.left < 0
   .simp [e1]
   simp [e1, show 0 < t.left by omega]
 by_cases k1 : Ai p t.at_.elem = 1
 .simp only [if_neg k4, k1, if_true, show ¬ (1 : Int) = 4 by decide, if_false, Option.bind_some]
  cases hh : Cg p t.at_ with
  | false => exact ⟨⟨0, [], 0, 0, 0⟩, 1, by simp, by simp, by simp⟩
  | true =>
   simp only [Bool.not_true, cond_false]
   by_cases r : A9 p t.at_ < 0
   .exact ⟨⟨0, [], 0, 0, 0⟩, 7, by simp [r], by simp [r], by simp⟩
   simp only [r, decide_false, cond_false]
   by_cases e1 : t.left < 0
   .exact ⟨⟨0, [], 0, 0, 0⟩, 1, by simp [e1], by simp [e1], by simp⟩
   by_cases e2 : C4 p t.at_.elem < t.left
   .exact ⟨⟨0, [], 0, 0, 0⟩, 1, by simp [e1, e2], by simp [e1, e2], by simp⟩
   simp only [e1, e2, decide_false, cond_false, Option.bind_some]
   rw [Bn (n := t.left + len) (by omega) (by omega)]
   by_cases e3 : C4 p t.at_.elem < t.left + len
   .exact ⟨⟨0, [], 0, 0, 0⟩, 9, by simp [e3], by simp [e3], by simp⟩
   exact ⟨⟨2, [t.at_], t.left, 0, 0⟩, 0, by simp [e3], by simp [e3], fun _ => ⟨rfl, .inr trivial⟩⟩
 exact ⟨⟨0, [], 0, 0, 0⟩, 1, by simp [k4, k1], by simp [k4, k1], by simp⟩
def Xw (p : AK) (e : Int) : List Int := if Ai p e = 4 then [] else [e]
theorem ABd (hn : BY p n) {b : FY} {h : AI} (ht : b.trail = [h]) : Gm n b = some (Xw p h.elem) := by
 obtain ⟨m, tr, x, y, z⟩ := b
 simp only at ht
 subst ht
 unfold Gm
 have i0 : Aa [h] 0 = some h := rfl
 have w : AO (0 + 1) = 1 := by decide
 by_cases k : Ai p h.elem = 4
 .have e1 : Cn n ⟨m, [h], x, y, z⟩ (0, []) = some (.inl (1, [])) := by
   simp only [Cn, List.length_cons, List.length_nil, i0, Option.bind_some, Du hn, k, w]; rfl
  rw [C8 e1]
  refine Dk ?_
  simp only [Cn, List.length_cons, List.length_nil, Xw, if_pos k]; rfl
 have e1 : Cn n ⟨m, [h], x, y, z⟩ (0, []) = some (.inl (1, [h.elem])) := by
  have : (Ai p h.elem != 4) = true := bne_iff_ne.2 k
  simp only [Cn, List.length_cons, List.length_nil, i0, Option.bind_some, Du hn, this, w]; rfl
 rw [C8 e1]
 refine Dk ?_
 simp only [Cn, List.length_cons, List.length_nil, Xw, if_neg k]; rfl
def EZ (p : AK) (r : CU) : Int := ((D6 p r.frm).getD ⟨0, 0⟩).elem
noncomputable def MA (p : AK) (d : AZ) (r : CU) : Int := (((Aa d.stock r.stock).bind fun s => FC p s.len (Gc p r)).map (·.2)).getD 0
theorem TP (hn : BY p n) (hv : Bg p) {d : AZ} (hx : ID d) {i : Nat} {r : CU} (hr : d.runs[i]? = some r) : ∃ s b, Aa d.stock r.stock = some s /\ FX n s.len (Gc p r) = some (b, MA p d r) /\ FC p s.len (Gc p r) = some (b, MA p d r) /\
  (MA p d r = 0 -> Gm n b = some (if Ai p (EZ p r) = 1 then [EZ p r] else [])) := by
 obtain ⟨k1, k2⟩ := hx i r hr
 obtain ⟨s, hs⟩ := EY (l := d.stock) (n := r.stock) k1 k2
 obtain ⟨b, e, h1, h2, h3⟩ := AAp hn hv s.len (Gc p r)
 have he : MA p d r = e := by unfold MA; rw [hs]; simp only [Option.bind_some, h2]; rfl
 rw [he]
 refine ⟨s, b, hs, h1, h2, fun h0 => ?_⟩
 obtain ⟨g1, g2⟩ := h3 h0
 rw [ABd hn g1]
 have e1 : (Gc p r).at_.elem = EZ p r := rfl
 rw [e1] at g2 ⊢
 unfold Xw
 rcases g2 with g2 | g2
 .rw [if_pos g2, if_neg (by omega)]
 rw [if_neg (by omega), if_pos g2]
noncomputable def DG (p : AK) (d : AZ) : List CU -> Int
 | [] => 0
 | r :: l => if MA p d r = 0 then DG p d l else MA p d r
def Ed (p : AK) : List Int -> List CU -> Bool
 | _, [] => false
 | pre, r :: l => if Ai p (EZ p r) = 1 then decide (EZ p r ∈ pre) || Ed p (pre ++ [EZ p r]) l else Ed p pre l
def OL (p : AK) : List (Int × Bool) -> List CU -> Bool
 | _, [] => false
 | m, r :: l => if Ai p (EZ p r) = 1 then (An m (EZ p r)).getD false || OL p (A3 (EZ p r) true m) l else OL p m l
theorem Q2 : ∀ (l : List CU) (m : List (Int × Bool)) (pre : List Int), (∀ x, (An m x).getD false = decide (x ∈ pre)) -> OL p m l = Ed p pre l
 | [], _, _, _ => rfl
 | r :: l, m, pre, h => by
  unfold OL Ed
  split
  .rw [h, Q2 l (A3 (EZ p r) true m) (pre ++ [EZ p r]) fun x => ?_]
   rw [FE]
   by_cases e : x = EZ p r
   .simp [e]
   simp [e, h]
  exact Q2 l m pre h
theorem Tw (hn : BY p n) (hv : Bg p) {d : AZ} (hd : F8 d) (hx : ID d) : HS n d = some (if DG p d d.runs = 0 then (if Ed p [] d.runs = true then 18 else 0) else DG p d d.runs) := by
 have d1 := hd.runs
 have key := Cr d.runs (fun i (c : Int × List (Int × Bool)) => (c.1, (i : Int), c.2)) (fun i c r => some (if DG p d r = 0 then (if OL p c.2 r = true then (18 : Int) else c.1) else DG p d r)) (step := Er n d) (fun c => ?_) (fun i c a r ha hi => ?_) (0, [])
 .unfold HS
  rw [<- Q2 (p := p) d.runs [] [] (fun x => by simp [An])]
  exact key
 .simp only [Er, Bu, cond_false]; rfl
 obtain ⟨s, b, h1, h2, -, h4⟩ := TP hn hv hx ha
 have w : AO ((i : Int) + 1) = ((i + 1 : Nat) : Int) := AY (by omega)
 have ht : Il p d (i : Int) = (Gc p a, true) := by unfold Il; rw [Ak, ha]
 simp only [Er, BS ha, cond_true, Ak, ha, Option.bind_some, VC hn, ht, h1, h2, Fq]
 by_cases e : MA p d a = 0
 .right
  rw [if_pos e, h4 e]
  simp only [Option.bind_some, DG, if_pos e, OL]
  by_cases k : Ai p (EZ p a) = 1
  .simp only [if_pos k]
   refine ⟨(if (An c.2 (EZ p a)).getD false = true then 18 else c.1, A3 (EZ p a) true c.2), ?_, ?_⟩
   .have i0 : Aa [EZ p a] 0 = some (EZ p a) := rfl
    have e1 : Dn (c.1, (i : Int), c.2) [EZ p a] (c.1, 0, c.2) = some (.inl (if (An c.2 (EZ p a)).getD false = true then 18 else c.1, 1, A3 (EZ p a) true c.2)) := by
     simp only [Dn, List.length_cons, List.length_nil, i0, Option.bind_some, show AO (0 + 1) = 1 by decide]
     cases (An c.2 (EZ p a)).getD false <;> rfl
    rw [C8 e1]
    refine Dk ?_
    simp only [Dn, List.length_cons, List.length_nil, w]; rfl
   split
   .cases (An c.2 (EZ p a)).getD false <;> cases OL p (A3 (EZ p a) true c.2) r <;> rfl
   rfl
  simp only [if_neg k]
  refine ⟨c, ?_, rfl⟩
  refine Dk ?_
  simp only [Dn, List.length_nil, w]; rfl
 left
 rw [if_neg e]
 simp only [DG, if_neg e]; rfl
def Jo (p : AK) (l : List Aj) (d : AZ) (i k : Nat) (_ : Cm) : Bool := ((L7 p l d (i : Int) (k : Int)).length : Int) == 0
def Jp (p : AK) (l : List Aj) (d : AZ) (i : Nat) (r : CU) : Bool := (((r.legs.length : Int) == 0) || (((r.legs.getLast?).map (·.fin)).getD 0 != 2)) || (Bz (Jo p l d i) 0 r.legs).isSome
theorem VP {l : List Cm} (hl : l.length <= 1000) : ((bif ((l.length : Int) == 0) then some true else (Aa l (AO ((l.length : Int) - 1))).bind fun y => some (y.fin != 2) : Option Bool)) = some (((l.length : Int) == 0) || (((l.getLast?).map (·.fin)).getD 0 != 2)) := by
 cases l with
 | nil => rfl
 | cons a t =>
  have h0 : (((a :: t).length : Int) == 0) = false := beq_eq_false_iff_ne.2 (by simp; omega)
  have hw : AO (((a :: t).length : Int) - 1) = ((t.length : Nat) : Int) := by
   simp only [List.length_cons] at hl ⊢
   rw [Bn (by omega) (by omega)]; omega
  rw [h0, hw, Ak]
  have hg : (a :: t).getLast? = (a :: t)[t.length]? := by rw [List.getLast?_eq_getElem?]; simp
  rw [hg]
  cases hx : (a :: t)[t.length]? with
  | none => have := List.getElem?_eq_none_iff.1 hx; simp at this; omega
  | some x => rfl
theorem R5 (hn : BY p n) (hv : Bg p) {d : AZ} (hd : F8 d) (hx : ID d) {l : List Aj} (hl : IC l) : AR (Fa ⟨p, l⟩ d n) 0 = some (if (Bz (Jp p l d) 0 d.runs).isSome = true then 10 else 0) := by
 have d1 := hd.runs
 rw [IE (l := d.runs) (Jp p l d) (fun _ => (10 : Int)) (some 0) (by simp [Fa]) (fun i a ha => by
  have hi := BW ha
  have hal := (hd.legs i a ha).1
  simp only [Fa, BS ha, cond_true, Ak, ha, Option.bind_some, VP (show a.legs.length <= 1000 by omega)]
  unfold Jp
  cases (((a.legs.length : Int) == 0) || (((a.legs.getLast?).map (·.fin)).getD 0 != 2)) with
  | true => rfl
  | false =>
   simp only [cond_false, Bool.false_or]
   rw [IE (l := a.legs) (Jo p l d i) (fun _ => Sum.inr (10 : Int)) (some (.inl ((i + 1 : Nat) : Int))) (by simp only [Hu, Bu, cond_false, AY (show i < 1000000000 by omega)]; rfl) (fun k x hk => by
    have hk' := BW hk
    simp only [Hu, BS hk, cond_true, VG hv hn hd hx hl, Option.bind_some, AY (show k < 1000000000 by omega)]
    show _ = if Jo p l d i k x = true then _ else _
    unfold Jo
    cases ((L7 p l d (i : Int) (k : Int)).length : Int) == 0 <;> rfl)]
   cases Bz (Jo p l d i) 0 a.legs <;> rfl)]
 cases Bz (Jp p l d) 0 d.runs <;> rfl
theorem R6 (hv : Bg p) {d : AZ} (hd : F8 d) (hx : ID d) {l : List Aj} (hl : IC l) : AR (Fc p l d) 0 = some (if (Bz (Jp p l d) 0 d.runs).isSome = true then 10 else 0) := by
 have d1 := hd.runs
 rw [IE (l := d.runs) (Jp p l d) (fun _ => (10 : Int)) (some 0) (by simp [Fc]) (fun i a ha => by
  have hi := BW ha
  have hal := (hd.legs i a ha).1
  simp only [Fc, BS ha, cond_true, Ak, ha, Option.bind_some, VP (show a.legs.length <= 1000 by omega)]
  unfold Jp
  cases (((a.legs.length : Int) == 0) || (((a.legs.getLast?).map (·.fin)).getD 0 != 2)) with
  | true => rfl
  | false =>
   simp only [cond_false, Bool.false_or]
   rw [IE (l := a.legs) (Jo p l d i) (fun _ => Sum.inr (10 : Int)) (some (.inl ((i + 1 : Nat) : Int))) (by simp only [H5, Bu, cond_false, AY (show i < 1000000000 by omega)]; rfl) (fun k x hk => by
    have hk' := BW hk
    simp only [H5, BS hk, cond_true, VH hv hd hx hl, Option.bind_some, AY (show k < 1000000000 by omega)]
    show _ = if Jo p l d i k x = true then _ else _
    unfold Jo
    cases ((L7 p l d (i : Int) (k : Int)).length : Int) == 0 <;> rfl)]
   cases Bz (Jo p l d i) 0 a.legs <;> rfl)]
 cases Bz (Jp p l d) 0 d.runs <;> rfl
theorem R7 (hv : Bg p) {d : AZ} (hd : F8 d) (hx : ID d) {l : List Aj} (hl : IC l) :
  AR (EJ p l d) (0, []) = some (if Ed p [] d.runs = true then 18 else if (Bz (Jp p l d) 0 d.runs).isSome = true then 10 else 0) := by
 have d1 := hd.runs
 obtain ⟨b, hb, rfl⟩ := El (step := EJ p l d) (Post := fun b => b = if Ed p [] d.runs = true then (18 : Int) else if (Bz (Jp p l d) 0 d.runs).isSome = true then 10 else 0)
  (fun k s => s.1 = (k : Int) /\ k <= d.runs.length /\ s.2.length <= k /\ Ed p [] d.runs = Ed p s.2 (d.runs.drop k)) d.runs.length (s := (0, [])) (by
  rintro k ⟨s1, c⟩ ⟨e, hk, hc, hm⟩
  simp only at e hc hm
  subst e
  by_cases he : k = d.runs.length
  .subst he
   left
   refine ⟨_, by simp only [EJ, Bu, cond_false, R6 hv hd hx hl]; rfl, ?_⟩
   rw [hm, List.drop_length]; simp [Ed]
  have hk' : k < d.runs.length := by omega
  have ha : d.runs[k]? = some d.runs[k] := List.getElem?_eq_getElem hk'
  have hdr : d.runs.drop k = d.runs[k] :: d.runs.drop (k + 1) := List.drop_eq_getElem_cons hk'
  generalize d.runs[k] = a at ha hdr
  have ht : Il p d (k : Int) = (Gc p a, true) := by unfold Il; rw [Ak, ha]
  have e1 : (Gc p a).at_.elem = EZ p a := rfl
  have w : AO ((k : Int) + 1) = ((k + 1 : Nat) : Int) := AY (by omega)
  have hs : ∀ r, Ed p c (a :: r) = if Ai p (EZ p a) = 1 then decide (EZ p a ∈ c) || Ed p (c ++ [EZ p a]) r else Ed p c r := fun _ => rfl
  rw [hdr, hs] at hm
  simp only [EJ, BS ha, cond_true, Pg, ht, Option.bind_some, e1, Fs, CS, AAJ c (show c.length < 1000000 by omega), Bt (show c.length + [EZ p a].length <= 4294967296 by simp; omega), w]
  by_cases q : Ai p (EZ p a) = 1
  .rw [if_pos q] at hm
   simp only [if_pos q]
   by_cases hin : EZ p a ∈ c
   .left
    exact ⟨18, by simp [hin, Cw], by rw [hm]; simp [hin]⟩
   right
   exact ⟨hk', (((k + 1 : Nat) : Int), c ++ [EZ p a]), by simp [hin, Cw], rfl, by omega, by simp; omega, by rw [hm]; simp [hin]⟩
  rw [if_neg q] at hm
  simp only [if_neg q]
  right
  exact ⟨hk', (((k + 1 : Nat) : Int), c), by simp [Cw], rfl, by omega, by dsimp only; omega, hm⟩) ⟨rfl, Nat.zero_le _, by simp, by simp⟩
 exact hb
theorem R8 (hn : BY p n) (hv : Bg p) {d : AZ} (hd : F8 d) (hx : ID d) {l : List Aj} (hl : IC l) :
  AR (EK p l d) 0 = some (if DG p d d.runs = 0 then (if Ed p [] d.runs = true then 18 else if (Bz (Jp p l d) 0 d.runs).isSome = true then 10 else 0) else DG p d d.runs) := by
 have d1 := hd.runs
 have key := Cr (γ := Unit) d.runs (fun i _ => (i : Int)) (fun i _ r => some (if DG p d r = 0 then (if Ed p [] d.runs = true then (18 : Int) else if (Bz (Jp p l d) 0 d.runs).isSome = true then 10 else 0) else DG p d r)) (step := EK p l d) (fun _ => ?_) (fun i _ a r ha hi => ?_) ()
 .exact key
 .simp only [EK, Bu, cond_false, R7 hv hd hx hl]; rfl
 obtain ⟨s, b, h1, -, h3, -⟩ := TP hn hv hx ha
 have ht : Il p d (i : Int) = (Gc p a, true) := by unfold Il; rw [Ak, ha]
 have hs : DG p d (a :: r) = if MA p d a = 0 then DG p d r else MA p d a := rfl
 simp only [EK, BS ha, cond_true, Ak, ha, Option.bind_some, Pg, ht, h1, h3, Fq, AY (show i < 1000000000 by omega)]
 by_cases e : MA p d a = 0
 .right
  rw [if_pos e] at hs
  exact ⟨(), by rw [if_pos e], by simp only [hs]⟩
 left
 rw [if_neg e] at hs
 simp only [hs, if_neg e]; rfl
noncomputable def R9 (p : AK) (l : List Aj) (d : AZ) : Int := if p.signals.any (·.auto) = true then 7 else if Gf p d = 0 then (if DG p d d.runs = 0 then (if Ed p [] d.runs = true then 18 else if (Bz (Jp p l d) 0 d.runs).isSome = true then 10 else 0) else DG p d d.runs) else Gf p d
theorem VQ (hv : Bg p) (hN : EA p = some (some n, 0)) (hn : BY p n) {d : AZ} (hd : F8 d) {l : List Aj} (hl : IC l) : Gn ⟨p, l⟩ d = some (R9 p l d) := by
 have q := hv.ns
 unfold Gn R9
 obtain ⟨t, h1, h2⟩ := Pi (l := p.signals) (fun s => s.auto) (by omega) (step := FZ ⟨p, l⟩) (by simp [FZ]) (fun i a ha => by
  have := BW ha
  simp only [FZ, It, BS ha, cond_true, Ak, ha, Option.bind_some, AY (show i < 1000000000 by omega)])
 rw [h1]
 simp only [Option.bind_some, h2]
 cases p.signals.any (fun s => s.auto) with
 | true => rfl
 | false =>
  simp only [cond_false, Q1 p hv.few hd, Option.bind_some, Fq, Bool.false_eq_true, if_false]
  by_cases c : Gf p d = 0
  .rw [if_pos c, if_pos c]
   have hx := (TO c).ix
   simp only [hN, Option.bind_some, N7, if_true, Tw hn hv hd hx]
   by_cases e : DG p d d.runs = 0
   .rw [if_pos e, if_pos e]
    cases Ed p [] d.runs with
    | true => rfl
    | false =>
     simp only [Bool.false_eq_true, if_false, if_true]
     exact R5 hn hv hd hx hl
   rw [if_neg e, if_neg e, if_neg e]
  rw [if_neg c, if_neg c]
theorem VR (hv : Bg p) (hn : BY p n) {d : AZ} (hd : F8 d) {l : List Aj} (hl : IC l) : If p l d = some (R9 p l d) := by
 have q := hv.ns
 unfold If R9
 refine (La (l := p.signals) (fun s => s.auto) 7 (some (if Gf p d = 0 then (if DG p d d.runs = 0 then (if Ed p [] d.runs = true then 18 else if (Bz (Jp p l d) 0 d.runs).isSome = true then 10 else 0) else DG p d d.runs) else Gf p d)) ?_ (fun i a ha => by
  have := BW ha
  simp only [H6, BS ha, cond_true, Ak, ha, Option.bind_some, AY (show i < 1000000000 by omega)])).trans ?_
 .simp only [H6, Bu, cond_false, VO p hv.few hd, Option.bind_some, Fq]
  by_cases c : Gf p d = 0
  .rw [if_pos c, if_pos c, R8 hn hv hd (TO c).ix hl]
  rw [if_neg c, if_neg c]
 split <;> rfl
end
end Go.E
/- Plain Lean: what a net says of lines. No condition. -/
namespace Go.E
open Go
end Go.E
/- Plain Lean: what a leg wants free, as the document says it. No condition. -/
namespace Go.E
open Go
structure AAq (p : AK) (l : List Aj) : Prop where
 steps : ∀ r ∈ l, ∀ s ∈ r.steps, 0 <= s.elem /\ s.elem < 40
 zone : ∀ r ∈ l, ∀ e ∈ r.zone, 0 <= e /\ e < 40
section
variable {p : AK} {n : A0}
end
end Go.E
/- Plain Lean: what a leg wants free, and what a run claims: the program beside the document. No condition. -/
namespace Go.E
open Go
def KU (m : List (Int × Bool)) : List Int := m.map (·.1)
theorem TQ (e : Int) : ∀ m : List (Int × Bool), (KU m).Nodup -> (KU (A3 e true m)).Nodup /\ ∀ x, x ∈ KU (A3 e true m) ↔ x ∈ KU m \/ x = e
 | [], _ => by simp [A3, KU]
 | q :: m, h => by
  unfold KU at h
  rw [List.map_cons, List.nodup_cons] at h
  obtain ⟨h1, h2⟩ := TQ e m h.2
  have hu : A3 e true (q :: m) = if (e == q.1) = true then (q.1, true) :: m else q :: A3 e true m := rfl
  by_cases c : e = q.1
  .have : A3 e true (q :: m) = (q.1, true) :: m := by rw [hu, if_pos (by rw [c]; exact beq_self_eq_true _)]
   rw [this]
   unfold KU
   rw [List.map_cons]
   refine ⟨List.nodup_cons.2 h, fun x => ?_⟩
   rw [List.map_cons, c]
   constructor
   .exact .inl
   rintro (h | rfl)
   .exact h
   exact List.mem_cons_self
  have : A3 e true (q :: m) = q :: A3 e true m := by rw [hu, if_neg (fun hh => c (beq_iff_eq.1 hh))]
  rw [this]
  unfold KU at h1 h2 ⊢
  rw [List.map_cons]
  refine ⟨List.nodup_cons.2 ⟨fun hm => ?_, h1⟩, fun x => ?_⟩
  .rcases (h2 q.1).1 hm with hm | hm
   .exact h.1 hm
   exact c hm.symm
  rw [List.map_cons, List.mem_cons, List.mem_cons, h2]
  constructor
  .rintro (h | h | h)
   .exact .inl (.inl h)
   .exact .inl (.inr h)
   exact .inr h
  rintro ((h | h) | h)
  .exact .inl h
  .exact .inr (.inl h)
  exact .inr (.inr h)
structure QE (m : List (Int × Bool)) (S : Int -> Prop) : Prop where
 nd : (KU m).Nodup
 mem : ∀ x, x ∈ KU m ↔ S x
theorem QE.put {m : List (Int × Bool)} {S : Int -> Prop} (h : QE m S) (e : Int) : QE (A3 e true m) fun x => S x \/ x = e := by
 obtain ⟨h1, h2⟩ := TQ e m h.nd
 exact ⟨h1, fun x => by rw [h2, h.mem]⟩
theorem QE.ext {m : List (Int × Bool)} {S T : Int -> Prop} (h : QE m S) (e : ∀ x, S x ↔ T x) : QE m T := ⟨h.nd, fun x => by rw [h.mem, e]⟩
section
variable {p : AK} {n : A0}
end
end Go.E
/- The example that the laws of timetables AJ at, reckoned by the kernel. No condition. -/
namespace Go.E
open Go Go.Proofs
set_option maxRecDepth 100000
theorem AAk : KQ = some true := by kernel_rfl
end Go.E
/- Plain Lean: the laws WayStands, WayRoads, WayChecks answer true, for every argument. No condition. -/
namespace Go.E
open Go
section
variable {p : AK} {n : A0}
theorem WO (hv : Bg p) (hn : BY p n) {l : List Aj} (hb : LQ p n l) : IC l /\ AAq p l := by
 have key : ∀ q ∈ l, ∃ (s : Nat) (r : Aj), r ∈ Im p (s : Int) /\ Ss p r q := fun q hq => by
  obtain ⟨s, r, -, h2, -, h4, -⟩ := hb.road hv hn hq
  exact ⟨s, r, h2, h4⟩
 have hne := hv.ne
 refine ⟨⟨hb.len, fun q hq => ?_, fun q hq => ?_⟩, ⟨fun q hq t ht => ?_, fun q hq e he => ?_⟩⟩
 .obtain ⟨s, r, h2, f⟩ := key q hq
  obtain ⟨_, _, _, _, a1, a2, _⟩ := JB (Ea h2).1
  rw [f.steps]; exact ⟨a1, a2⟩
 .obtain ⟨s, r, h2, f⟩ := key q hq
  have := f.zone.len
  omega
 .obtain ⟨s, r, h2, f⟩ := key q hq
  rw [f.steps] at ht
  have := OM (Xx h2 t ht)
  omega
 obtain ⟨s, r, h2, f⟩ := key q hq
 have := OM (f.zone.rng e he)
 omega
theorem AAr (p : AK) : ∃ c b, Gp p = some (c, b) /\ (b = true -> ∃ n, Bg p /\ EA p = some (some n, 0) /\ BY p n /\ c.plan = p /\ LQ p n c.roads) := by
 obtain ⟨b, h1, h2⟩ := Xy p
 unfold Gp
 simp only [h1, Option.bind_some]
 cases b with
 | false => exact ⟨_, false, rfl, by simp⟩
 | true =>
  have hv := h2 rfl
  obtain ⟨n, hN, hn⟩ := ABa p hv
  obtain ⟨c, e, e1, e2⟩ := Zs hv hN hn
  simp only [Bool.not_true, cond_false, e1, Option.bind_some]
  refine ⟨c, e == 0, rfl, fun h => ?_⟩
  have he : e = 0 := beq_iff_eq.1 h
  rcases e2 with ⟨_, g1, g2⟩ | h3
  .exact ⟨n, hv, hN, hn, g1, g2⟩
  omega
theorem Su (p : AK) (d : AZ) : G4 p d = some true := by
 unfold G4
 obtain ⟨b0, f1, f2⟩ := WH d
 simp only [AAk, Option.bind_some, Bool.not_true, cond_false, f1]
 cases b0 with
 | false => rfl
 | true =>
  obtain ⟨c, b, e1, e2⟩ := AAr p
  simp only [Bool.not_true, cond_false, e1, Option.bind_some]
  cases b with
  | false => rfl
  | true =>
   obtain ⟨n, hv, hN, hn, g4, g5⟩ := e2 rfl
   obtain ⟨cp, cl⟩ := c
   simp only at g4 g5
   subst g4
   have hl := (WO hv hn g5).1
   simp only [Bool.not_true, cond_false, VQ hv hN hn (f2 rfl) hl, VR hv hn (f2 rfl) hl, Option.bind_some, beq_self_eq_true]
end
end Go.E
