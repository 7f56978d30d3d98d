/- Plain Lean: of which plans the document's check answers, and what a plan is that it takes. No condition. -/
import Derived.KernelRfl
import Derived.Test.YtilbadmonidmhaaGreatJ4
set_option linter.unusedVariables false
set_option linter.unusedSimpArgs false
namespace Go.E
open Go
theorem BS {α : Type} {l : List α} {i : Nat} {a : α} (h : l[i]? = some a) : decide ((i : Int) < (l.length : Int)) = true := by
 have := (List.getElem?_eq_some_iff.1 h).1
 simpa using this
theorem Bw {α : Type} (l : List α) : decide ((l.length : Int) < (l.length : Int)) = false := by simp
theorem BY {α : Type} {l : List α} {i : Nat} {a : α} (h : l[i]? = some a) : i < l.length := (List.getElem?_eq_some_iff.1 h).1
structure FK (p : AO) : Prop where
 elems : p.elems.length <= 60
 joins : p.joins.length <= 120
 signals : p.signals.length <= 60
 lines : p.lines.length <= 20
 line : ∀ (i : Nat) l, p.lines[i]? = some l -> l.elems.length <= 60 /\ l.name.size <= 100
 elem : ∀ (i : Nat) e, p.elems[i]? = some e -> e.name.size <= 100
 signal : ∀ (i : Nat) s, p.signals[i]? = some s -> s.name.size <= 100
theorem Xe (p : AO) : ∃ b, Ji p = some b /\ (b = true -> FK p) := by
 unfold Ji
 by_cases h1 : (60 : Int) < p.elems.length
 .exact ⟨false, by simp [h1], by simp⟩
 by_cases h2 : (120 : Int) < p.joins.length
 .exact ⟨false, by simp [h1, h2], by simp⟩
 by_cases h3 : (60 : Int) < p.signals.length
 .exact ⟨false, by simp [h1, h2, h3], by simp⟩
 by_cases h4 : (20 : Int) < p.lines.length
 .exact ⟨false, by simp [h1, h2, h3, h4], by simp⟩
 have e1 : decide ((60 : Int) < p.elems.length) = false := by simpa using h1
 have e2 : decide ((120 : Int) < p.joins.length) = false := by simpa using h2
 have e3 : decide ((60 : Int) < p.signals.length) = false := by simpa using h3
 have e4 : decide ((20 : Int) < p.lines.length) = false := by simpa using h4
 simp only [e1, e2, e3, e4, cond_false, Option.bind_some]
 refine Bm (l := p.lines) (fun _ l => l.elems.length <= 60 /\ l.name.size <= 100) (fun g1 => ?_) (fun i l hl _ => ?_)
 .simp only [J3, Bw, cond_false]
  obtain ⟨b, hb, hp⟩ : ∃ b, AP (Hw p) 0 = some b /\ (b = true -> FK p) := by
   refine Bm (l := p.elems) (fun _ e => e.name.size <= 100) (fun g2 => ?_) (fun i e he _ => ?_)
   .simp only [Hw, Bw, cond_false]
    obtain ⟨b, hb, hp⟩ : ∃ b, AP (Hv p) 0 = some b /\ (b = true -> FK p) := by
     refine Bm (l := p.signals) (fun _ s => s.name.size <= 100) (fun g3 => ?_) (fun i s hs _ => ?_)
     .simp only [Hv, Bw, cond_false]
      exact ⟨true, rfl, fun _ => ⟨by omega, by omega, by omega, by omega, g1, g2, g3⟩⟩
     have := BY hs
     simp only [Hv, BS hs, cond_true, Af, hs, Option.bind_some]
     by_cases hn : (100 : Int) < s.name.size
     .exact .inl ⟨false, by simp [hn], by simp⟩
     exact .inr ⟨by simp [hn, AT (show i < 1000000000 by omega)], by omega⟩
    exact ⟨b, by rw [hb]; rfl, hp⟩
   have := BY he
   simp only [Hw, BS he, cond_true, Af, he, Option.bind_some]
   by_cases hn : (100 : Int) < e.name.size
   .exact .inl ⟨false, by simp [hn], by simp⟩
   exact .inr ⟨by simp [hn, AT (show i < 1000000000 by omega)], by omega⟩
  exact ⟨b, by rw [hb]; rfl, hp⟩
 have := BY hl
 simp only [J3, BS hl, cond_true, Af, hl, Option.bind_some]
 by_cases hn : (60 : Int) < l.elems.length
 .exact .inl ⟨false, by simp [hn], by simp⟩
 by_cases hm : (100 : Int) < l.name.size
 .exact .inl ⟨false, by simp [hn, hm], by simp⟩
 exact .inr ⟨by simp [hn, hm, AT (show i < 1000000000 by omega)], by omega, by omega⟩
def Hl (c : UInt8) : Bool := (decide (97 <= (c.toNat : Int)) && decide ((c.toNat : Int) <= 122)) || (decide (65 <= (c.toNat : Int)) && decide ((c.toNat : Int) <= 90))
def RL (c : UInt8) : Bool := decide (48 <= (c.toNat : Int)) && decide ((c.toNat : Int) <= 57)
structure KW (s : ByteArray) : Prop where
 pos : 1 <= s.size
 le : s.size <= 8
 chars : ∀ (i : Nat) c, s[i]? = some c -> Hl c = true \/ (i ≠ 0 /\ RL c = true)
theorem RM {β : Type} {s : ByteArray} {step : Int -> Option (Int ⊕ β)} {Post : β -> Prop} (Good : Nat -> UInt8 -> Prop) (k0 : Nat) (hk0 : k0 <= s.size)
  (hend : (∀ i c, k0 <= i -> s[i]? = some c -> Good i c) -> ∃ b, step (s.size : Int) = some (.inr b) /\ Post b)
  (hstep : ∀ (i : Nat) c, k0 <= i -> s[i]? = some c -> (∃ b, step (i : Int) = some (.inr b) /\ Post b) \/ (step (i : Int) = some (.inl ((i + 1 : Nat) : Int)) /\ Good i c)) :
  ∃ b, AP step (k0 : Int) = some b /\ Post b := by
 refine EZ (fun k t => t = ((k0 + k : Nat) : Int) /\ k0 + k <= s.size /\ ∀ j c, k0 <= j -> j < k0 + k -> s[j]? = some c -> Good j c) s.size ?_ ⟨rfl, hk0, fun j c _ hj => by omega⟩
 rintro k t ⟨rfl, hk, hg⟩
 have blt : ∀ (j : Nat) c, s[j]? = some c -> j < s.size := fun j c hc => by
  by_cases h : j < s.size
  .exact h
  rw [getElem?_neg s j h] at hc; cases hc
 by_cases he : k0 + k = s.size
 .rw [he]
  exact .inl (hend fun i c h0 hc => hg i c h0 (by rw [he]; exact blt i c hc) hc)
 have hk' : k0 + k < s.size := by omega
 have hc : s[k0 + k]? = some s[k0 + k] := getElem?_pos s (k0 + k) hk'
 rcases hstep (k0 + k) _ (by omega) hc with h | ⟨h1, h2⟩
 .exact .inl h
 refine .inr ⟨by omega, _, h1, rfl, by omega, fun j c h0 hj hcj => ?_⟩
 by_cases e : j = k0 + k
 .subst e; rw [hc] at hcj; cases hcj; exact h2
 exact hg j c h0 (by omega) hcj
theorem JR (s : ByteArray) (hs : s.size <= 1000) : ∃ b, HF s = some b /\ (b = true -> KW s) := by
 unfold HF
 have key := RM (s := s) (step := HE s) (Post := fun b => b = true -> KW s) (fun i c => Hl c = true \/ (i ≠ 0 /\ RL c = true)) 0 (Nat.zero_le _)
  (fun hg => ?_) (fun i c _ hc => ?_)
 .exact key
 .have : decide ((s.size : Int) < s.size) = false := by simp
  simp only [HE, this, cond_false]
  by_cases h1 : (1 : Int) <= s.size
  .by_cases h2 : (s.size : Int) <= 8
   .exact ⟨true, by simp [h1, h2], fun _ => ⟨by omega, by omega, fun i c => hg i c (Nat.zero_le _)⟩⟩
   exact ⟨false, by simp [h1, h2], by simp⟩
  exact ⟨false, by simp [h1], by simp⟩
 have hlt : i < s.size := by
  by_cases h : i < s.size
  .exact h
  rw [getElem?_neg s i h] at hc; cases hc
 have : decide ((i : Int) < s.size) = true := by simpa using hlt
 have hx : NM s (i : Int) = some c := hc
 have hi0 : ((i : Int) == 0) = decide (i = 0) := by
  rw [Bool.eq_iff_iff]; simp
 simp only [HE, this, cond_true, hx, Option.bind_some, AT (show i < 1000000000 by omega), hi0]
 have hl : ((bif decide (97 <= (c.toNat : Int)) then bif decide ((c.toNat : Int) <= 122) then some true else bif decide (65 <= (c.toNat : Int)) then some (decide ((c.toNat : Int) <= 90)) else some false else bif decide (65 <= (c.toNat : Int)) then some (decide ((c.toNat : Int) <= 90)) else some false : Option Bool)) = some (Hl c) := by
  unfold Hl
  cases decide (97 <= (c.toNat : Int)) <;> cases decide ((c.toNat : Int) <= 122) <;> cases decide (65 <= (c.toNat : Int)) <;> cases decide ((c.toNat : Int) <= 90) <;> rfl
 rw [hl]
 simp only [Option.bind_some]
 cases hL : Hl c with
 | true => exact .inr ⟨by simp, .inl rfl⟩
 | false =>
  by_cases h0 : i = 0
  .exact .inl ⟨false, by simp [h0], by simp⟩
  by_cases h1 : (c.toNat : Int) < 48
  .exact .inl ⟨false, by simp [h0, h1], by simp⟩
  by_cases h2 : (57 : Int) < c.toNat
  .exact .inl ⟨false, by simp [h0, h1, h2], by simp⟩
  exact .inr ⟨by simp [h0, h1, h2], .inr ⟨h0, by simp [RL]; omega⟩⟩
end Go.E
/- Plain Lean: the numbers, names and joins of a plan that the document's check takes. No condition. -/
namespace Go.E
open Go
theorem Mz (x lo hi : Int) : DT x lo hi = some (decide (lo <= x) && decide (x <= hi)) := by
 unfold DT
 cases decide (lo <= x) <;> rfl
structure Xf (e : By) : Prop where
 name : KW e.name
 ends : CW e.kind ≠ 0
 gate : e.kind = 4 -> e.length = 0
 len : e.kind ≠ 4 -> 1 <= e.length /\ e.length <= 4000
structure Nn (p : AO) : Prop where
 top : 1 <= p.top /\ p.top <= 60
 brake : 1 <= p.brake /\ p.brake <= 10
 margin : 1 <= p.margin /\ p.margin <= 4000
 throw : 1 <= p.throw /\ p.throw <= 20
 one : 1 <= p.elems.length
 elem : ∀ (i : Nat) e, p.elems[i]? = some e -> Xf e
 signal : ∀ (i : Nat) s, p.signals[i]? = some s -> KW s.name
 line : ∀ (i : Nat) l, p.lines[i]? = some l -> KW l.name
theorem WW (p : AO) (hf : FK p) : ∃ b, KO p = some b /\ (b = true -> Nn p) := by
 unfold KO
 simp only [Mz, Option.bind_some]
 have fin : (1 <= p.top /\ p.top <= 60) -> (1 <= p.brake /\ p.brake <= 10) -> (1 <= p.margin /\ p.margin <= 4000) -> (1 <= p.throw /\ p.throw <= 20) -> 1 <= p.elems.length -> ∃ b, AP (HJ p) 0 = some b /\ (b = true -> Nn p) := by
  intro a1 a2 a3 a4 a5
  refine Bm (l := p.elems) (fun _ e => Xf e) (fun g1 => ?_) (fun i e he _ => ?_)
  .simp only [HJ, Bw, cond_false]
   obtain ⟨b, hb, hp⟩ : ∃ b, AP (HI p) 0 = some b /\ (b = true -> Nn p) := by
    refine Bm (l := p.signals) (fun _ s => KW s.name) (fun g2 => ?_) (fun i s hs _ => ?_)
    .simp only [HI, Bw, cond_false]
     obtain ⟨b, hb, hp⟩ : ∃ b, AP (HH p) 0 = some b /\ (b = true -> Nn p) := by
      refine Bm (l := p.lines) (fun _ s => KW s.name) (fun g3 => ?_) (fun i s hs _ => ?_)
      .simp only [HH, Bw, cond_false]
       exact ⟨true, rfl, fun _ => ⟨a1, a2, a3, a4, a5, g1, g2, g3⟩⟩
      have := BY hs; have := hf.lines
      obtain ⟨b, hb, hn⟩ := JR s.name (by have := (hf.line i s hs).2; omega)
      simp only [HH, BS hs, cond_true, Af, hs, Option.bind_some, hb, AT (show i < 1000000000 by omega)]
      cases b with
      | false => exact .inl ⟨false, rfl, by simp⟩
      | true => exact .inr ⟨rfl, hn rfl⟩
     exact ⟨b, by rw [hb]; rfl, hp⟩
    have := BY hs; have := hf.signals
    obtain ⟨b, hb, hn⟩ := JR s.name (by have := (hf.signal i s hs); omega)
    simp only [HI, BS hs, cond_true, Af, hs, Option.bind_some, hb, AT (show i < 1000000000 by omega)]
    cases b with
    | false => exact .inl ⟨false, rfl, by simp⟩
    | true => exact .inr ⟨rfl, hn rfl⟩
   exact ⟨b, by rw [hb]; rfl, hp⟩
  have := BY he; have := hf.elems
  obtain ⟨b, hb, hn⟩ := JR e.name (by have := (hf.elem i e he); omega)
  simp only [HJ, BS he, cond_true, Af, he, Option.bind_some, hb, AT (show i < 1000000000 by omega), JO, Mz, Eh, Kq]
  cases b with
  | false => exact .inl ⟨false, rfl, by simp⟩
  | true =>
   by_cases h1 : CW e.kind = 0
   .exact .inl ⟨false, by simp [h1], by simp⟩
   by_cases h2 : e.kind = 4
   .by_cases h3 : e.length = 0
    .exact .inr ⟨by simp only [h1, if_false]; simp [h2, h3], ⟨hn rfl, h1, fun _ => h3, fun h => absurd h2 h⟩⟩
    exact .inl ⟨false, by simp only [h1, if_false]; simp [h2, h3], by simp⟩
   by_cases h3 : 1 <= e.length
   .by_cases h4 : e.length <= 4000
    .exact .inr ⟨by simp [h1, h2, h3, h4], ⟨hn rfl, h1, fun h => absurd h h2, fun _ => ⟨h3, h4⟩⟩⟩
    exact .inl ⟨false, by simp [h1, h2, h3, h4], by simp⟩
   exact .inl ⟨false, by simp [h1, h2, h3], by simp⟩
 by_cases a1 : 1 <= p.top /\ p.top <= 60
 .by_cases a2 : 1 <= p.brake /\ p.brake <= 10
  .by_cases a3 : 1 <= p.margin /\ p.margin <= 4000
   .by_cases a4 : 1 <= p.throw /\ p.throw <= 20
    .by_cases a5 : 1 <= p.elems.length
     .have : ((p.elems.length : Int) == 0) = false := by rw [beq_eq_false_iff_ne]; omega
      simp only [a1, a2, a3, a4, this, decide_true, Bool.and_self, Bool.not_true, cond_false, Option.bind_some]
      exact fin a1 a2 a3 a4 a5
     have : ((p.elems.length : Int) == 0) = true := by rw [beq_iff_eq]; omega
     exact ⟨false, by simp [a1, a2, a3, a4, this], by simp⟩
    have : (decide (1 <= p.throw) && decide (p.throw <= 20)) = false := by simpa using a4
    exact ⟨false, by simp only [a1, a2, a3, this, decide_true, Bool.and_self, Bool.not_true, Bool.not_false, cond_false, cond_true, Option.bind_some], by simp⟩
   have : (decide (1 <= p.margin) && decide (p.margin <= 4000)) = false := by simpa using a3
   exact ⟨false, by simp only [a1, a2, this, decide_true, Bool.and_self, Bool.not_true, Bool.not_false, cond_false, cond_true, Option.bind_some], by simp⟩
  have : (decide (1 <= p.brake) && decide (p.brake <= 10)) = false := by simpa using a2
  exact ⟨false, by simp only [a1, this, decide_true, Bool.and_self, Bool.not_true, Bool.not_false, cond_false, cond_true, Option.bind_some], by simp⟩
 have : (decide (1 <= p.top) && decide (p.top <= 60)) = false := by simpa using a1
 exact ⟨false, by simp only [this, Bool.not_false, cond_true, Option.bind_some], by simp⟩
theorem A2 {α : Type} {l m : List α} (h : l.length + m.length <= 4294967296) : A7 l m = some (l ++ m) := by simp [A7, h]
theorem Yk (p : AO) (hf : FK p) : I6 p = some (p.elems.map (·.name), p.signals.map (·.name), p.lines.map (·.name)) := by
 have h1 := hf.elems; have h2 := hf.signals; have h3 := hf.lines
 unfold I6
 have e3 : ∀ (s54 s160 : Int × List ByteArray), AP (Er p s54 s160) (0, ([] : List ByteArray)) = some (s54.2, s160.2, p.lines.map (·.name)) := by
  intro s54 s160
  obtain ⟨b, hb, rfl⟩ := B9 (l := p.lines) (step := Er p s54 s160) (Post := fun b => b = (s54.2, s160.2, p.lines.map (·.name))) (fun k c => c = (p.lines.take k).map (·.name))
   (fun c hc => by subst hc; exact ⟨(s54.2, s160.2, (p.lines.take p.lines.length).map (·.name)), by simp only [Er, Bw, cond_false], by rw [List.take_length]⟩)
   (fun i a c ha hc => by
    subst hc; have := BY ha
    exact .inr ⟨_, by simp only [Er, BS ha, cond_true, Af, ha, Option.bind_some, A2 (l := (p.lines.take i).map (·.name)) (m := [a.name]) (by simp; omega), AT (show i < 1000000000 by omega)], (DF ha).symm⟩) (c := []) rfl
  exact hb
 have e2 : ∀ (s54 : Int × List ByteArray), AP (Es p s54) (0, ([] : List ByteArray)) = some (s54.2, p.signals.map (·.name), p.lines.map (·.name)) := by
  intro s54
  obtain ⟨b, hb, rfl⟩ := B9 (l := p.signals) (step := Es p s54) (Post := fun b => b = (s54.2, p.signals.map (·.name), p.lines.map (·.name))) (fun k c => c = (p.signals.take k).map (·.name))
   (fun c hc => by subst hc; exact ⟨(s54.2, (p.signals.take p.signals.length).map (·.name), p.lines.map (·.name)), by simp only [Es, Bw, cond_false, e3]; rfl, by rw [List.take_length]⟩)
   (fun i a c ha hc => by
    subst hc; have := BY ha
    exact .inr ⟨_, by simp only [Es, BS ha, cond_true, Af, ha, Option.bind_some, A2 (l := (p.signals.take i).map (·.name)) (m := [a.name]) (by simp; omega), AT (show i < 1000000000 by omega)], (DF ha).symm⟩) (c := []) rfl
  exact hb
 obtain ⟨b, hb, rfl⟩ := B9 (l := p.elems) (step := GU p) (Post := fun b => b = (p.elems.map (·.name), p.signals.map (·.name), p.lines.map (·.name))) (fun k c => c = (p.elems.take k).map (·.name))
  (fun c hc => by subst hc; exact ⟨((p.elems.take p.elems.length).map (·.name), p.signals.map (·.name), p.lines.map (·.name)), by simp only [GU, Bw, cond_false, e2]; rfl, by rw [List.take_length]⟩)
  (fun i a c ha hc => by
   subst hc; have := BY ha
   exact .inr ⟨_, by simp only [GU, BS ha, cond_true, Af, ha, Option.bind_some, A2 (l := (p.elems.take i).map (·.name)) (m := [a.name]) (by simp; omega), AT (show i < 1000000000 by omega)], (DF ha).symm⟩) (c := []) rfl
 exact hb
def MA (l : List ByteArray) : Prop := ∀ (i k : Nat) a b, k < i -> l[i]? = some a -> l[k]? = some b -> a.toList ≠ b.toList
theorem MW (l : List ByteArray) (hl : l.length <= 1000) : ∃ b, F4 l = some b /\ (b = false -> MA l) := by
 unfold F4
 refine Bm (l := l) (fun i a => ∀ k b, k < i -> l[k]? = some b -> a.toList ≠ b.toList) (fun g => ?_) (fun i a ha _ => ?_)
 .exact ⟨false, by simp only [IJ, Bw, cond_false], fun _ i k a b hk h1 h2 => g i a h1 k b hk h2⟩
 have hi := BY ha
 simp only [IJ, BS ha, cond_true]
 have key : ∃ r, AP (GV l (i : Int)) 0 = some r /\ (r = .inr true \/ (r = .inl (((i + 1 : Nat) : Int)) /\ ∀ k b, k < i -> l[k]? = some b -> a.toList ≠ b.toList)) := by
  refine EZ (fun k s => s = (k : Int) /\ k <= i /\ ∀ j b, j < k -> l[j]? = some b -> a.toList ≠ b.toList) i ?_ ⟨rfl, Nat.zero_le _, fun j b hj => by omega⟩
  rintro k s ⟨rfl, hk, hg⟩
  by_cases he : k = i
  .subst he
   exact .inl ⟨_, by simp only [GV, Int.lt_irrefl, decide_false, cond_false, AT (show k < 1000000000 by omega)], .inr ⟨rfl, hg⟩⟩
  have hk' : k < i := by omega
  have hb : l[k]? = some (l[k]'(by omega)) := List.getElem?_eq_getElem _
  have hd : decide ((k : Int) < (i : Int)) = true := by simpa using hk'
  simp only [GV, hd, cond_true, Af, ha, hb, Option.bind_some]
  cases h : a.toList == (l[k]'(by omega)).toList with
  | true => exact .inl ⟨.inr true, rfl, .inl rfl⟩
  | false =>
   refine .inr ⟨hk', ((k + 1 : Nat) : Int), by rw [AT (show k < 1000000000 by omega)]; rfl, rfl, by omega, fun j b hj hjb => ?_⟩
   by_cases e : j = k
   .subst e; rw [hb] at hjb; cases hjb; exact beq_eq_false_iff_ne.1 h
   exact hg j b (by omega) hjb
 obtain ⟨r, hr, h⟩ := key
 rcases h with rfl | ⟨rfl, h⟩
 .exact .inl ⟨true, hr, by simp⟩
 exact .inr ⟨hr, h⟩
end Go.E
/- Plain Lean: the joins and signals of a plan that the document's check takes. No condition. -/
namespace Go.E
open Go
theorem Fp {α β : Type} {f : α -> List β} {l : List α} {i : Nat} {a : α} (h : l[i]? = some a) : (l.take (i + 1)).flatMap f = (l.take i).flatMap f ++ f a := by
 rw [List.take_add_one, h]; simp
def CS (p : AO) : List AE := p.joins.flatMap fun j => [j.a, j.b]
structure Hm (p : AO) : Prop where
 has : ∀ (i : Nat) x, (CS p)[i]? = some x -> DJ p x = true
 dist : ∀ (i k : Nat) x y, k < i -> (CS p)[i]? = some x -> (CS p)[k]? = some y -> y ≠ x
 gate : ∀ (i : Nat) e, p.elems[i]? = some e -> e.kind = 4 -> ∃ y, A0 p ⟨(i : Int), 0⟩ = some y /\ Ap p y.elem ≠ 4
theorem HU (l : List Bx) : (l.flatMap fun j => [j.a, j.b]).length = 2 * l.length := by
 induction l with
 | nil => rfl
 | cons a l ih => simp only [List.flatMap_cons, List.length_append, ih, List.length_cons, List.length_nil]; omega
theorem UP (p : AO) (hf : FK p) : ∃ b, Hz p = some b /\ (b = true -> Hm p) := by
 have q1 := hf.elems; have q2 := hf.joins
 unfold Hz
 have gates : ∃ b, AP (Fc p) 0 = some b /\ (b = true -> ∀ (i : Nat) e, p.elems[i]? = some e -> e.kind = 4 -> ∃ y, A0 p ⟨(i : Int), 0⟩ = some y /\ Ap p y.elem ≠ 4) := by
  refine Bm (l := p.elems) (fun i e => e.kind = 4 -> ∃ y, A0 p ⟨(i : Int), 0⟩ = some y /\ Ap p y.elem ≠ 4) (fun g => ?_) (fun i e he _ => ?_)
  .exact ⟨true, by simp only [Fc, Bw, cond_false], fun _ => g⟩
  have := BY he
  simp only [Fc, BS he, cond_true, Af, he, Option.bind_some, Eh, Cv p (by omega), Ei, AT (show i < 1000000000 by omega)]
  by_cases hk : e.kind = 4
  .cases hn : A0 p ⟨(i : Int), 0⟩ with
   | none => exact .inl ⟨false, by simp [hk, Kf], by simp⟩
   | some y =>
    by_cases hy : Ap p y.elem = 4
    .exact .inl ⟨false, by simp [hk, hy, Kf], by simp⟩
    have : (Ap p y.elem == 4) = false := beq_eq_false_iff_ne.2 hy
    exact .inr ⟨by simp [hk, this, Kf], fun _ => ⟨y, rfl, hy⟩⟩
  exact .inr ⟨by simp [hk, Kf], fun h => absurd h hk⟩
 obtain ⟨bg, hbg, hgg⟩ := gates
 have dist : ∀ s70 : Int × List AE, s70.2 = CS p -> ∃ b, AP (Fd p s70) 0 = some b /\ (b = true -> Hm p) := by
  rintro ⟨s0, l⟩ hl
  simp only at hl
  have hlen : l.length <= 240 := by rw [hl, CS, HU]; omega
  refine Bm (l := l) (fun i x => DJ p x = true /\ ∀ k y, k < i -> l[k]? = some y -> y ≠ x) (fun g => ?_) (fun i x hx _ => ?_)
  .refine ⟨bg, by simp only [Fd, Bw, cond_false, hbg]; rfl, fun h => ⟨?_, ?_, hgg h⟩⟩
   .rw [<- hl]; exact fun i x hx => (g i x hx).1
   rw [<- hl]; exact fun i k x y hk hx hy => (g i x hx).2 k y hk hy
  have hi := BY hx
  simp only [Fd, BS hx, cond_true, Af, hx, Option.bind_some, J6]
  cases hh : DJ p x with
  | false => exact .inl ⟨false, rfl, by simp⟩
  | true =>
   have key : ∃ r, AP (Fb (s0, l) (i : Int)) 0 = some r /\ (r = .inr false \/ (r = .inl (((i + 1 : Nat) : Int)) /\ ∀ k y, k < i -> l[k]? = some y -> y ≠ x)) := by
    refine EZ (fun k s => s = (k : Int) /\ k <= i /\ ∀ j y, j < k -> l[j]? = some y -> y ≠ x) i ?_ ⟨rfl, Nat.zero_le _, fun j b hj => by omega⟩
    rintro k s ⟨rfl, hk, hg⟩
    by_cases he : k = i
    .subst he
     exact .inl ⟨_, by simp only [Fb, Int.lt_irrefl, decide_false, cond_false, AT (show k < 1000000000 by omega)], .inr ⟨rfl, hg⟩⟩
    have hk' : k < i := by omega
    have hb : l[k]? = some (l[k]'(by omega)) := List.getElem?_eq_getElem _
    have hd : decide ((k : Int) < (i : Int)) = true := by simpa using hk'
    simp only [Fb, hd, cond_true, Af, hx, hb, Option.bind_some, Eh]
    by_cases h : (l[k]'(by omega)) = x
    .exact .inl ⟨.inr false, by rw [if_pos h], .inl rfl⟩
    refine .inr ⟨hk', ((k + 1 : Nat) : Int), by rw [if_neg h, AT (show k < 1000000000 by omega)], rfl, by omega, fun j b hj hjb => ?_⟩
    by_cases e : j = k
    .subst e; rw [hb] at hjb; cases hjb; exact h
    exact hg j b (by omega) hjb
   obtain ⟨r, hr, h⟩ := key
   rcases h with rfl | ⟨rfl, h⟩
   .exact .inl ⟨false, hr, by simp⟩
   exact .inr ⟨hr, rfl, h⟩
 refine B9 (l := p.joins) (fun k c => c = (p.joins.take k).flatMap fun j => [j.a, j.b]) (fun c hc => ?_) (fun i a c ha hc => ?_) (c := []) rfl
 .rw [List.take_length] at hc
  obtain ⟨b, hb, h⟩ := dist ((p.joins.length : Int), c) hc
  exact ⟨b, by simp only [Hd, Bw, cond_false, hb]; rfl, h⟩
 subst hc; have := BY ha
 refine .inr ⟨_, ?_, (Fp ha).symm⟩
 simp only [Hd, BS ha, cond_true, Af, ha, Option.bind_some, AT (show i < 1000000000 by omega)]
 rw [A2 (by rw [HU, List.length_take]; simp; omega)]; rfl
def Cw (x : AE) : Nat -> List BI -> Int
 | _, [] => -1
 | i, s :: r => if s.at_ = x then i else Cw x (i + 1) r
def BD (p : AO) (x : AE) : Int := Cw x 0 p.signals
theorem J7 (x : AE) : ∀ (l : List BI) (i : Nat), (Cw x i l = -1 /\ ∀ (k : Nat) s, l[k]? = some s -> s.at_ ≠ x) \/
  ∃ (k : Nat) (s : BI), l[k]? = some s /\ s.at_ = x /\ Cw x i l = ((i + k : Nat) : Int) /\ ∀ (j : Nat) t, j < k -> l[j]? = some t -> t.at_ ≠ x
 | [], i => .inl ⟨rfl, by simp⟩
 | s :: r, i => by
  by_cases h : s.at_ = x
  .exact .inr ⟨0, s, rfl, h, by simp [Cw, h], fun j t hj => by omega⟩
  rcases J7 x r (i + 1) with ⟨h1, h2⟩ | ⟨k, t, h1, h2, h3, h4⟩
  .refine .inl ⟨by simp [Cw, h, h1], fun k t hk => ?_⟩
   cases k with
   | zero => cases hk; exact h
   | succ k => exact h2 k t (by simpa using hk)
  refine .inr ⟨k + 1, t, by simpa using h1, h2, by simp only [Cw, if_neg h, h3]; congr 1; omega, fun j u hj hu => ?_⟩
  cases j with
  | zero => cases hu; exact h
  | succ j => exact h4 j u (by omega) (by simpa using hu)
theorem IS (p : AO) (hp : p.signals.length < 1000000) (x : AE) : E0 p x = some (BD p x) := by
 unfold E0 BD
 refine Ir (γ := Unit) p.signals (fun i _ => (i : Int)) (fun i _ r => some (Cw x i r)) (fun _ => ?_) (fun i _ a r ha hi => ?_) ()
 .simp [IK, Cw]
 simp only [IK, Af, ha, Option.bind_some, BS ha, cond_true, Cw, Eh]
 by_cases h1 : a.at_ = x
 .left; simp [h1]
 right
 exact ⟨(), by simp [h1, AT (show i < 1000000000 by omega)]⟩
structure AA0 (p : AO) : Prop where
 has : ∀ (i : Nat) s, p.signals[i]? = some s -> DJ p s.at_ = true
 kind : ∀ (i : Nat) s, p.signals[i]? = some s -> Ap p s.at_.elem = 1 \/ Ap p s.at_.elem = 4
 next : ∀ (i : Nat) s, p.signals[i]? = some s -> ∃ y, A0 p s.at_ = some y /\ Ap p y.elem ≠ 4
 reads : ∀ (i : Nat) s, p.signals[i]? = some s -> BD p s.at_ = i
 gate : ∀ (i : Nat) e, p.elems[i]? = some e -> e.kind = 4 -> 0 <= BD p ⟨(i : Int), 0⟩
theorem S7 (p : AO) (hf : FK p) : ∃ b, HO p = some b /\ (b = true -> AA0 p) := by
 have q1 := hf.elems; have q2 := hf.joins; have q3 := hf.signals
 unfold HO
 have gates : ∃ b, AP (E1 p) 0 = some b /\ (b = true -> ∀ (i : Nat) e, p.elems[i]? = some e -> e.kind = 4 -> 0 <= BD p ⟨(i : Int), 0⟩) := by
  refine Bm (l := p.elems) (fun i e => e.kind = 4 -> 0 <= BD p ⟨(i : Int), 0⟩) (fun g => ?_) (fun i e he _ => ?_)
  .exact ⟨true, by simp only [E1, Bw, cond_false], fun _ => g⟩
  have := BY he
  simp only [E1, BS he, cond_true, Af, he, Option.bind_some, Eh, IS p (by omega), AT (show i < 1000000000 by omega)]
  by_cases hk : e.kind = 4
  .by_cases hr : BD p ⟨(i : Int), 0⟩ < 0
   .exact .inl ⟨false, by simp [hk, hr], by simp⟩
   exact .inr ⟨by simp [hk, hr], fun _ => by omega⟩
  exact .inr ⟨by simp [hk], fun h => absurd h hk⟩
 obtain ⟨bg, hbg, hgg⟩ := gates
 refine Bm (l := p.signals) (fun i s => DJ p s.at_ = true /\ (Ap p s.at_.elem = 1 \/ Ap p s.at_.elem = 4) /\ (∃ y, A0 p s.at_ = some y /\ Ap p y.elem ≠ 4) /\ BD p s.at_ = i) (fun g => ?_) (fun i s hs _ => ?_)
 .exact ⟨bg, by simp only [Gt, Bw, cond_false, hbg]; rfl, fun h => ⟨fun i s hs => (g i s hs).1, fun i s hs => (g i s hs).2.1, fun i s hs => (g i s hs).2.2.1, fun i s hs => (g i s hs).2.2.2, hgg h⟩⟩
 have := BY hs
 simp only [Gt, BS hs, cond_true, Af, hs, Option.bind_some, Eh, Kq, IS p (by omega), Cv p (by omega), Ei, J6, AT (show i < 1000000000 by omega)]
 cases hh : DJ p s.at_ with
 | false => exact .inl ⟨false, by simp, by simp⟩
 | true =>
  by_cases hk : Ap p s.at_.elem = 1 \/ Ap p s.at_.elem = 4
  .have hk' : ((if Ap p s.at_.elem = 1 then some false else some (Ap p s.at_.elem != 4) : Option Bool)) = some false := by
    rcases hk with h | h <;> simp [h]
   simp only [Bool.not_true, cond_false, hk', Option.bind_some]
   cases hn : A0 p s.at_ with
   | none => exact .inl ⟨false, by simp, by simp⟩
   | some y =>
    by_cases hy : Ap p y.elem = 4
    .exact .inl ⟨false, by simp [hy], by simp⟩
    by_cases hr : BD p s.at_ = i
    .exact .inr ⟨by simp [hy, hr], trivial, hk, ⟨y, rfl, hy⟩, hr⟩
    have : (BD p s.at_ != (i : Int)) = true := bne_iff_ne.2 hr
    exact .inl ⟨false, by simp [hy, this], by simp⟩
  have h1 : ¬ Ap p s.at_.elem = 1 := fun h => hk (.inl h)
  have h2 : ¬ Ap p s.at_.elem = 4 := fun h => hk (.inr h)
  have h3 : (Ap p s.at_.elem != 4) = true := bne_iff_ne.2 h2
  exact .inl ⟨false, by simp [h1, h3], by simp⟩
end Go.E
/- Plain Lean: the lines and lengths of a plan that the document's check takes; the check as a whole. No condition. -/
namespace Go.E
open Go
theorem Yq (l : List Int) (n : Int) (hl : l.length < 1000000) : ∃ b, C1 l n = some b /\ (b = false -> n ∉ l) := by
 unfold C1
 refine Bm (l := l) (fun _ a => a ≠ n) (fun g => ?_) (fun i a ha _ => ?_)
 .refine ⟨false, by simp only [E2, Bw, cond_false], fun _ hn => ?_⟩
  obtain ⟨i, hi⟩ := List.mem_iff_getElem?.1 hn
  exact g i n hi rfl
 have := BY ha
 simp only [E2, BS ha, cond_true, Af, ha, Option.bind_some, Eh, AT (show i < 1000000000 by omega)]
 by_cases h : a = n
 .exact .inl ⟨true, by rw [if_pos h], by simp⟩
 exact .inr ⟨by rw [if_neg h], h⟩
theorem O3 : ∀ {l : List Bx} {x y : AE}, Cp l x = some y -> y ∈ l.flatMap fun j => [j.a, j.b]
 | j :: r, x, y, h => by
  simp only [Cp] at h
  split at h
  .cases h; simp
  split at h
  .cases h; simp
  have := O3 h; simp only [List.flatMap_cons, List.mem_append]; exact .inr this
theorem Yr (k : Int) : 0 <= CW k /\ CW k <= 4 := by unfold CW; repeat' split <;> omega
theorem FM {p : AO} {x : AE} (h : DJ p x = true) : 0 <= x.fin /\ x.fin < 4 /\ x.fin < CW (Ap p x.elem) := by
 simp only [DJ, Bool.and_eq_true, decide_eq_true_eq] at h
 have := Yr (Ap p x.elem)
 omega
theorem Hm.next {p : AO} (hj : Hm p) {x y : AE} (h : A0 p x = some y) : DJ p y = true := by
 obtain ⟨i, hi⟩ := List.mem_iff_getElem?.1 (O3 h)
 exact hj.has i y hi
def IC (p : AO) (x : AE) (f : Int) : Prop := ∃ y, A0 p x = some y /\ y.elem = f
instance (p : AO) (x : AE) (f : Int) : Decidable (IC p x f) :=
 match h : A0 p x with
 | some y => if e : y.elem = f then isTrue ⟨y, h, e⟩ else isFalse fun ⟨z, hz, ez⟩ => by rw [h] at hz; cases hz; exact e ez
 | none => isFalse fun ⟨z, hz, _⟩ => by rw [h] at hz; cases hz
def ER (p : AO) (a b : Int) : Int := if IC p ⟨a, 0⟩ b then 0 else if IC p ⟨a, 1⟩ b then 1 else -1
def KY (p : AO) : Int -> Int -> List Int -> Prop
 | _, _, [] => True
 | out, e, f :: r => ∃ y, A0 p ⟨e, out⟩ = some y /\ y.elem = f /\ KY p (1 - y.fin) f r
structure O4 (p : AO) (l : List Int) : Prop where
 one : 1 <= l.length
 track : ∀ (i : Nat) e, l[i]? = some e -> Ap p e = 1
 chain : ∀ a b r, l = a :: b :: r -> 0 <= ER p a b /\ KY p (ER p a b) a (b :: r)
theorem Sn (p : AO) (x : AE) (f : Int) : ((bif (A0 p x).isSome then some (((A0 p x).getD ⟨0, 0⟩).elem == f) else some false : Option Bool)) = some (decide (IC p x f)) := by
 by_cases hm : IC p x f
 .obtain ⟨y, h, e⟩ := id hm
  simp [hm, h, e]
 cases h : A0 p x with
 | none => simp [hm]
 | some y =>
  have : (y.elem == f) = false := beq_eq_false_iff_ne.2 fun e => hm ⟨y, h, e⟩
  simp [hm, this]
theorem UT (p : AO) (hf : FK p) (hj : Hm p) (l : List Int) (hl : l.length <= 60) : ∃ b, H0 p l = some b /\ (b.2 = true -> O4 p l) := by
 have q2 := hf.joins
 unfold H0
 by_cases h0 : (l.length : Int) = 0
 .exact ⟨([], false), by simp [Eh, h0], by simp⟩
 simp only [Eh, if_neg h0]
 refine Bm (l := l) (fun _ e => Ap p e = 1) (fun g => ?_) (fun i e he _ => ?_)
 .simp only [Hf, Bw, cond_false, Eh]
  by_cases h1 : (l.length : Int) = 1
  .exact ⟨([0], true), by rw [if_pos h1]; rfl, fun _ => ⟨by omega, g, fun a b r h => by rw [h] at h1; simp at h1; omega⟩⟩
  rw [if_neg h1]
  obtain ⟨a, b, r, rfl⟩ : ∃ a b r, l = a :: b :: r := by
   match l, h0, h1 with
   | [], h0, _ => simp at h0
   | [a], _, h1 => simp at h1
   | a :: b :: r, _, _ => exact ⟨a, b, r, rfl⟩
  have i0 : An (a :: b :: r) 0 = some a := rfl
  have i1 : An (a :: b :: r) 1 = some b := rfl
  have st : ∀ (o e : Int), 0 <= e -> Du p (a :: b :: r) (o, e) = some (.inl (if IC p ⟨a, e⟩ b then e else o, Ae (e - 1))) := by
   intro o e he
   simp only [Du, he, decide_true, cond_true, i0, i1, Option.bind_some, Cv p (by omega), Sn]
   by_cases hm : IC p ⟨a, e⟩ b <;> simp [hm]
  have two : AP (Du p (a :: b :: r)) ((-1), 1) = AP (Du p (a :: b :: r)) (ER p a b, -1) := by
   rw [B2 (st (-1) 1 (by omega)), show Ae (1 - 1) = 0 by decide, B2 (st _ 0 (by omega)), show Ae (0 - 1) = -1 by decide]
   rfl
  rw [two, IY]
  simp only [Du, show decide ((0 : Int) <= -1) = false by decide, cond_false]
  by_cases hs : ER p a b < 0
  .exact ⟨([], false), by simp [hs], by simp⟩
  have hd : decide (ER p a b < 0) = false := by simpa using hs
  simp only [hd, cond_false]
  have hr : ER p a b = 0 \/ ER p a b = 1 := by
   unfold ER at hs ⊢
   split
   .exact .inl rfl
   split
   .exact .inr rfl
   rename_i h1 h2; rw [if_neg h1, if_neg h2] at hs; omega
  have key : ∃ b', AP (Fe p (a :: b :: r)) (ER p a b, 1, [Ae (1 - ER p a b)]) = some b' /\ (b'.2 = true -> KY p (ER p a b) a (b :: r)) := by
   refine EZ (fun k s => k + 1 <= (a :: b :: r).length /\ s.2.1 = ((k + 1 : Nat) : Int) /\ s.2.2.length <= k + 1 /\ ∀ e, (a :: b :: r)[k]? = some e -> KY p s.1 e ((a :: b :: r).drop (k + 1)) -> KY p (ER p a b) a (b :: r)) (a :: b :: r).length ?_ ⟨by simp, rfl, by simp, fun e he h => by cases he; exact h⟩
   rintro k ⟨o, i, ins⟩ ⟨hk, hi, hins, hc⟩
   simp only at hi hins hc
   subst hi
   generalize hL : a :: b :: r = L at *
   by_cases he : k + 1 = L.length
   .have : decide (((k + 1 : Nat) : Int) < L.length) = false := by simp; omega
    refine .inl ⟨(ins, true), by simp only [Fe, this, cond_false], fun _ => ?_⟩
    have ha : L[k]? = some (L[k]'(by omega)) := List.getElem?_eq_getElem _
    refine hc _ ha ?_
    rw [List.drop_eq_nil_of_le (by omega)]
    trivial
   have hlt : k + 1 < L.length := by omega
   have : decide (((k + 1 : Nat) : Int) < L.length) = true := by simp; omega
   have ha : L[k]? = some (L[k]'(by omega)) := List.getElem?_eq_getElem _
   have hb : L[k + 1]? = some (L[k + 1]'hlt) := List.getElem?_eq_getElem _
   have e1 : Ae (((k + 1 : Nat) : Int) - 1) = (k : Int) := by rw [CL] <;> omega
   simp only [Fe, this, cond_true, e1, Af, ha, hb, Option.bind_some, Cv p (show p.joins.length < 1000000 by omega), Eh]
   cases hn : A0 p ⟨L[k]'(by omega), o⟩ with
   | none => exact .inl ⟨([], false), by simp, by simp⟩
   | some y =>
    by_cases hy : y.elem = L[k + 1]'hlt
    .obtain ⟨f1, f2, _⟩ := FM (hj.next hn)
     have e2 : (y.elem != L[k + 1]'hlt) = false := by simp [hy]
     refine .inr ⟨by omega, (1 - y.fin, ((k + 1 + 1 : Nat) : Int), ins ++ [y.fin]), ?_, by omega, rfl, by simp; omega, fun e he' h => ?_⟩
     .simp only [Option.isSome_some, Bool.not_true, cond_false, Option.getD_some, e2, Option.bind_some]
      rw [A2 (by simp; omega), AT (show k + 1 < 1000000000 by omega), CL (n := 1 - y.fin) (by omega) (by omega)]; rfl
     cases he'
     refine hc _ ha ?_
     rw [List.drop_eq_getElem_cons hlt]
     exact ⟨y, hn, hy, h⟩
    have e2 : (y.elem != L[k + 1]'hlt) = true := bne_iff_ne.2 hy
    exact .inl ⟨([], false), by simp [e2], by simp⟩
  obtain ⟨b', hb', hp'⟩ := key
  exact ⟨b', by rw [hb']; rfl, fun h => ⟨by simp, g, fun a' b'' r' e => by cases e; exact ⟨by omega, hp' h⟩⟩⟩
 have := BY he
 simp only [Hf, BS he, cond_true, Af, he, Option.bind_some, Kq, Ei, AT (show i < 1000000000 by omega)]
 by_cases h : Ap p e = 1
 .exact .inr ⟨by rw [if_pos h], h⟩
 exact .inl ⟨([], false), by rw [if_neg h], by simp⟩
end Go.E
/- Plain Lean: the document's check answers of every plan that is not too long; what a plan is that it takes (Ce). No condition. -/
namespace Go.E
open Go
structure ZT (p : AO) : Prop where
 line : ∀ (i : Nat) l, p.lines[i]? = some l -> O4 p l.elems
 once : (p.lines.flatMap (·.elems)).Nodup
theorem U3 (p : AO) (hf : FK p) (hj : Hm p) : ∃ b, JA p = some b /\ (b = true -> ZT p) := by
 have q1 := hf.lines
 have len : ∀ k, ((p.lines.take k).flatMap (·.elems)).length <= 60 * k := by
  intro k
  induction k with
  | zero => simp
  | succ k ih =>
   cases h : p.lines[k]? with
   | none =>
    have : p.lines.take (k + 1) = p.lines.take k := by
     have := List.getElem?_eq_none_iff.1 h
     rw [List.take_of_length_le (by omega), List.take_of_length_le (by omega)]
    rw [this]; omega
   | some l =>
    rw [Fp h, List.length_append]
    have := (hf.line k l h).1
    omega
 unfold JA
 refine B9 (l := p.lines) (fun k c => c = (p.lines.take k).flatMap (·.elems) /\ c.Nodup /\ ∀ (i : Nat) l, i < k -> p.lines[i]? = some l -> O4 p l.elems) (fun c hc => ?_) (fun i a c ha hc => ?_) (c := []) ⟨rfl, List.nodup_nil, fun i l h => by omega⟩
 .rw [List.take_length] at hc
  exact ⟨true, by simp only [IL, Bw, cond_false], fun _ => ⟨fun i l hl => hc.2.2 i l (BY hl) hl, hc.1 ▸ hc.2.1⟩⟩
 obtain ⟨hc, hn, hp⟩ := hc
 have hi := BY ha
 have hlen := len i
 have hal := (hf.line i a ha).1
 simp only [IL, BS ha, cond_true, Af, ha, Option.bind_some]
 have key : ∃ r, AP (GX p ((i : Int), c) a) (0, c) = some r /\ (r = .inr false \/ ∃ c', r = .inl (((i + 1 : Nat) : Int), c') /\ c' = c ++ a.elems /\ c'.Nodup /\ O4 p a.elems) := by
  refine B9 (l := a.elems) (fun k d => d = c ++ a.elems.take k /\ d.Nodup) (fun d hd => ?_) (fun k e d he hd => ?_) (c := c) ⟨by simp, hn⟩
  .rw [List.take_length] at hd
   obtain ⟨b, hb, hb'⟩ := UT p hf hj a.elems hal
   simp only [GX, Bw, cond_false, hb, Option.bind_some, AT (show i < 1000000000 by omega)]
   cases hq : b.2 with
   | false => exact ⟨.inr false, rfl, .inl rfl⟩
   | true => exact ⟨_, rfl, .inr ⟨d, rfl, hd.1, hd.2, hb' hq⟩⟩
  have hk := BY he
  have hdl : d.length <= 60 * i + 60 := by rw [hd.1, hc, List.length_append, List.length_take]; omega
  obtain ⟨b, hb, hb'⟩ := Yq d e (by omega)
  simp only [GX, BS he, cond_true, Af, he, Option.bind_some, hb, AT (show k < 1000000000 by omega)]
  cases b with
  | true => exact .inl ⟨.inr false, rfl, .inl rfl⟩
  | false =>
   refine .inr ⟨d ++ [e], by rw [A2 (by simp; omega)]; rfl, ?_, ?_⟩
   .rw [hd.1, List.append_assoc, List.take_add_one, he]; rfl
   rw [List.nodup_append]
   exact ⟨hd.2, by simp, fun x hx y hy => by simp at hy; subst hy; rintro rfl; exact hb' rfl hx⟩
 obtain ⟨r, hr, h⟩ := key
 rcases h with rfl | ⟨c', rfl, h1, h2, h3⟩
 .exact .inl ⟨false, hr, by simp⟩
 refine .inr ⟨c', hr, by rw [h1, hc, Fp ha], h2, fun j l hj' hl => ?_⟩
 by_cases e : j = i
 .subst e; rw [ha] at hl; cases hl; exact h3
 exact hp j l (by omega) hl
theorem RO (v b : Int) : ∃ n, Io v b = some n /\ 0 <= n /\ n <= 3600 := by
 unfold Io
 by_cases h : v < 0 \/ 60 < v \/ b < 1 \/ 10 < b
 .refine ⟨0, ?_, by omega, by omega⟩
  by_cases h1 : v < 0
  .simp [h1]
  by_cases h2 : 60 < v
  .simp [h1, h2]
  by_cases h3 : b < 1
  .simp [h1, h2, h3]
  have h4 : 10 < b := by omega
  simp [h1, h2, h3, h4]
 have h1 : ¬ v < 0 := by omega
 have h2 : ¬ 60 < v := by omega
 have h3 : ¬ b < 1 := by omega
 have h4 : ¬ 10 < b := by omega
 simp only [h1, h2, h3, h4, decide_false, cond_false, Option.bind_some]
 rw [CL (n := v - b) (by omega) (by omega)]
 refine EZ (fun k s => s.1 <= 60 - (k : Int) /\ -10 <= s.1 /\ 0 <= s.2 /\ s.2 <= 60 * (k : Int) /\ k <= 60) 61 ?_ ⟨show v - b <= 60 - ((0 : Nat) : Int) by omega, show -10 <= v - b by omega, by simp, by simp, by omega⟩
 rintro k ⟨x, n⟩ ⟨a1, a2, a3, a4, a5⟩
 simp only at a1 a2 a3 a4
 by_cases hx : 0 < x
 .refine .inr ⟨by omega, (x - b, n + x), by simp only [JB, hx, decide_true, cond_true, CL (n := x - b) (by omega) (by omega), CL (n := n + x) (by omega) (by omega)], show x - b <= 60 - ((k + 1 : Nat) : Int) by omega, show -10 <= x - b by omega, show 0 <= n + x by omega, show n + x <= 60 * ((k + 1 : Nat) : Int) by omega, by omega⟩
 exact .inl ⟨n, by simp only [JB, hx, decide_false, cond_false], a3, by omega⟩
structure Wb (p : AO) : Prop where
 stop : ∀ n, Io p.top p.brake = some n -> p.top + n <= p.margin
 signal : ∀ (i : Nat) s, p.signals[i]? = some s -> Ap p s.at_.elem = 1 -> p.margin <= Ju p s.at_.elem
 elem : ∀ (i : Nat) e, p.elems[i]? = some e -> e.kind ≠ 4 -> p.top <= e.length
theorem Wc (p : AO) (hf : FK p) (ha : Nn p) : ∃ b, KP p = some b /\ (b = true -> Wb p) := by
 have q1 := hf.elems; have q3 := hf.signals; have q4 := ha.top
 obtain ⟨n, hn, n1, n2⟩ := RO p.top p.brake
 unfold KP
 simp only [hn, Option.bind_some]
 rw [CL (n := p.top + n) (by omega) (by omega)]
 by_cases h : p.margin < p.top + n
 .exact ⟨false, by simp [h], by simp⟩
 have hd : decide (p.margin < p.top + n) = false := by simpa using h
 simp only [hd, cond_false]
 refine Bm (l := p.signals) (fun i s => Ap p s.at_.elem = 1 -> p.margin <= Ju p s.at_.elem) (fun g => ?_) (fun i s hs _ => ?_)
 .obtain ⟨b, hb, hg⟩ : ∃ b, AP (HP p) 0 = some b /\ (b = true -> Wb p) := by
   refine Bm (l := p.elems) (fun i e => e.kind ≠ 4 -> p.top <= e.length) (fun g2 => ?_) (fun i e he _ => ?_)
   .exact ⟨true, by simp only [HP, Bw, cond_false], fun _ => ⟨fun m hm => by rw [hn] at hm; cases hm; omega, g, g2⟩⟩
   have := BY he
   simp only [HP, BS he, cond_true, Af, he, Option.bind_some, Kq, AT (show i < 1000000000 by omega)]
   by_cases hk : e.kind = 4
   .exact .inr ⟨by simp [hk], fun h => absurd hk h⟩
   by_cases hl : e.length < p.top
   .exact .inl ⟨false, by simp [hk, hl], by simp⟩
   exact .inr ⟨by simp [hk, hl], fun _ => by omega⟩
  exact ⟨b, by simp only [JC, Bw, cond_false, hb]; rfl, hg⟩
 have := BY hs
 simp only [JC, BS hs, cond_true, Af, hs, Option.bind_some, Eh, Ei, Rt, AT (show i < 1000000000 by omega)]
 by_cases hk : Ap p s.at_.elem = 1
 .by_cases hl : Ju p s.at_.elem < p.margin
  .exact .inl ⟨false, by simp [hk, hl], by simp⟩
  exact .inr ⟨by simp [hk, hl], fun _ => by omega⟩
 exact .inr ⟨by simp [hk], fun h => absurd h hk⟩
structure Ce (p : AO) : Prop where
 few : FK p
 ne : p.elems.length <= 40
 ns : p.signals.length <= 24
 nl : p.lines.length <= 4
 nj : p.joins.length <= 80
 args : Nn p
 n1 : MA (p.elems.map (·.name))
 n2 : MA (p.signals.map (·.name))
 n3 : MA (p.lines.map (·.name))
 join : Hm p
 sig : AA0 p
 line : ZT p
 long : Wb p
theorem U4 (p : AO) (hf : FK p) : ∃ r, ES p = some r /\ (r = 0 -> Ce p) := by
 have q1 := hf.elems; have q2 := hf.joins; have q3 := hf.signals; have q4 := hf.lines
 unfold ES
 by_cases a1 : (40 : Int) < p.elems.length
 .exact ⟨3, by simp [a1], fun h => absurd h (by decide)⟩
 by_cases a2 : (24 : Int) < p.signals.length
 .exact ⟨3, by simp [a1, a2], fun h => absurd h (by decide)⟩
 by_cases a3 : (4 : Int) < p.lines.length
 .exact ⟨3, by simp [a1, a2, a3], fun h => absurd h (by decide)⟩
 by_cases a4 : (80 : Int) < p.joins.length
 .exact ⟨3, by simp [a1, a2, a3, a4], fun h => absurd h (by decide)⟩
 simp only [a1, a2, a3, a4, decide_false, cond_false, Option.bind_some, Yk p hf]
 obtain ⟨b1, h1, g1⟩ := WW p hf
 simp only [h1, Option.bind_some]
 cases b1 with
 | false => exact ⟨1, rfl, fun h => absurd h (by decide)⟩
 | true =>
  obtain ⟨t1, k1, m1⟩ := MW (p.elems.map (·.name)) (by simp; omega)
  obtain ⟨t2, k2, m2⟩ := MW (p.signals.map (·.name)) (by simp; omega)
  obtain ⟨t3, k3, m3⟩ := MW (p.lines.map (·.name)) (by simp; omega)
  simp only [k1, k2, k3, Option.bind_some, Bool.not_true, cond_false]
  cases t1 with
  | true => exact ⟨4, rfl, fun h => absurd h (by decide)⟩
  | false =>
   cases t2 with
   | true => exact ⟨4, rfl, fun h => absurd h (by decide)⟩
   | false =>
    cases t3 with
    | true => exact ⟨4, rfl, fun h => absurd h (by decide)⟩
    | false =>
     obtain ⟨b2, h2, g2⟩ := UP p hf
     simp only [h2, Option.bind_some, cond_false]
     cases b2 with
     | false => exact ⟨6, rfl, fun h => absurd h (by decide)⟩
     | true =>
      obtain ⟨b3, h3, g3⟩ := S7 p hf
      simp only [h3, Option.bind_some, Bool.not_true, cond_false]
      cases b3 with
      | false => exact ⟨7, rfl, fun h => absurd h (by decide)⟩
      | true =>
       obtain ⟨b4, h4, g4⟩ := U3 p hf (g2 rfl)
       simp only [h4, Option.bind_some, Bool.not_true, cond_false]
       cases b4 with
       | false => exact ⟨8, rfl, fun h => absurd h (by decide)⟩
       | true =>
        obtain ⟨b5, h5, g5⟩ := Wc p hf (g1 rfl)
        simp only [h5, Option.bind_some, Bool.not_true, cond_false]
        cases b5 with
        | false => exact ⟨9, rfl, fun h => absurd h (by decide)⟩
        | true => exact ⟨0, rfl, fun _ => ⟨hf, by omega, by omega, by omega, by omega, g1 rfl, m1 rfl, m2 rfl, m3 rfl, g2 rfl, g3 rfl, g4 rfl, g5 rfl⟩⟩
theorem Wd (p : AO) : ∃ b, HN p = some b /\ (b = true -> Ce p) := by
 obtain ⟨b, hb, hf⟩ := Xe p
 unfold HN
 simp only [hb, Option.bind_some]
 cases b with
 | false => exact ⟨false, rfl, by simp⟩
 | true =>
  obtain ⟨r, hr, hv⟩ := U4 p (hf rfl)
  simp only [hr, Option.bind_some, cond_true]
  exact ⟨r == 0, rfl, fun h => hv (by simpa using h)⟩
end Go.E
/- Plain Lean: the program's check takes each valid plan: numbers, names, joins. No condition. -/
namespace Go.E
open Go
section
variable {κ υ : Type} [BEq κ] [PartialEquivBEq κ]
theorem Nu (x : κ) (v : υ) (y : κ) : ∀ m : List (κ × υ), (x == x) = true -> AZ (A5 x v m) y = if y == x then some v else AZ m y
 | [], _ => by simp [A5, AZ]
 | p :: m, hx => by
  simp only [A5]
  by_cases h : (x == p.1) = true
  .simp only [h, if_true, AZ]
   by_cases h2 : (y == p.1) = true
   .have : (y == x) = true := PartialEquivBEq.trans h2 (PartialEquivBEq.symm h)
    simp [h2, this]
   have : ¬ (y == x) = true := fun h3 => h2 (PartialEquivBEq.trans h3 h)
   simp [h2, this]
  simp only [h, if_false, AZ, Bool.false_eq_true]
  rw [Nu x v y m hx]
  by_cases h2 : (y == p.1) = true
  .have : ¬ (y == x) = true := fun h3 => h (PartialEquivBEq.trans (PartialEquivBEq.symm h3) h2)
   simp [h2, this]
  simp [h2]
end
theorem DE {κ υ : Type} [DecidableEq κ] (x : κ) (v : υ) (y : κ) (m : List (κ × υ)) : AZ (A5 x v m) y = if y = x then some v else AZ m y := by
 rw [Nu x v y m (by simp)]
 by_cases h : y = x <;> simp [h]
instance : PartialEquivBEq ByteArray where
 symm {a b} h := by
  have : (a.toList == b.toList) = true := h
  show (b.toList == a.toList) = true
  simpa using (by simpa using this : a.toList = b.toList).symm
 trans {a b c} h g := by
  have h' : (a.toList == b.toList) = true := h
  have g' : (b.toList == c.toList) = true := g
  show (a.toList == c.toList) = true
  simp only [beq_iff_eq] at h' g' ⊢
  exact h'.trans g'
theorem Lj (c : UInt8) : IM (c.toNat : Int) = some (Hl c) := by
 unfold IM Hl
 cases decide (97 <= (c.toNat : Int)) <;> cases decide ((c.toNat : Int) <= 122) <;> cases decide (65 <= (c.toNat : Int)) <;> cases decide ((c.toNat : Int) <= 90) <;> rfl
theorem Po (s : ByteArray) : s.toList.length = s.size := by
 have key : ∀ (n i : Nat) (r : List UInt8), s.size - i <= n -> (ByteArray.toList.loop s i r).length = (s.size - i) + r.length := by
  intro n
  induction n with
  | zero =>
   intro i r h
   unfold ByteArray.toList.loop
   rw [if_neg (by omega)]; simp; omega
  | succ n ih =>
   intro i r h
   unfold ByteArray.toList.loop
   split
   .rw [ih (i + 1) _ (by omega)]; simp; omega
   simp; omega
 have := key s.size 0 [] (by omega)
 show (ByteArray.toList.loop s 0 []).length = s.size
 rw [this]; simp
theorem Lk (s : ByteArray) (h : KW s) : H3 s = some true := by
  have h1 := h.pos; have h2 := h.le
  have e0 : (s.toList == ByteArray.empty.toList) = false := by
    rw [beq_eq_false_iff_ne]
    intro e
    have h0 : s.toList.length = ByteArray.empty.size := by rw [e, Po]
    rw [Po, show ByteArray.empty.size = 0 from rfl] at h0
    omega
  have e1 : decide ((8 : Int) < s.size) = false := by simp; omega
  have c0 : s[0]? = some s[0] := getElem?_pos s 0 (by omega)
  have x0 : NM s 0 = some s[0] := c0
  have l0 : Hl s[0] = true := by
    rcases h.chars 0 _ c0 with h | ⟨h, _⟩
    . exact h
    exact absurd rfl h
  unfold H3
  simp only [e0, e1, cond_false, x0, Option.bind_some, Lj, l0, Bool.not_true]
  obtain ⟨b, hb, rfl⟩ := RM (s := s) (step := Hg s) (Post := fun b => b = true) (fun _ _ => True) 1 (by omega)
    (fun _ => ⟨true, by have : decide ((s.size : Int) < s.size) = false := by simp
                        simp only [Hg, this, cond_false], rfl⟩) (fun i c hi hc => by
      have hlt : i < s.size := by
        by_cases h : i < s.size
        . exact h
        rw [getElem?_neg s i h] at hc; cases hc
      have hd : decide ((i : Int) < s.size) = true := by simpa using hlt
      have hx : NM s (i : Int) = some c := hc
      refine .inr ⟨?_, trivial⟩
      simp only [Hg, hd, cond_true, hx, Option.bind_some, Lj, AT (show i < 1000000000 by omega)]
      rcases h.chars i c hc with h | ⟨_, h⟩
      . simp [h]
      cases hL : Hl c with
      | true => simp
      | false =>
        simp only [RL, Bool.and_eq_true, decide_eq_true_eq] at h
        have g1 : ¬ (c.toNat : Int) < 48 := by omega
        have g2 : ¬ (57 : Int) < c.toNat := by omega
        simp [g1, g2])
  exact hb
theorem Wi (p : AO) (hf : FK p) (ha : Nn p) : Jj p = some true := by
 have q1 := hf.elems; have q2 := hf.signals; have q3 := hf.lines
 obtain ⟨a1, a2⟩ := ha.top; obtain ⟨b1, b2⟩ := ha.brake; obtain ⟨c1, c2⟩ := ha.margin; obtain ⟨d1, d2⟩ := ha.throw
 have h0 : ((p.elems.length : Int) == 0) = false := by rw [beq_eq_false_iff_ne]; have := ha.one; omega
 unfold Jj
 simp only [show ¬ p.top < 1 by omega, show ¬ 60 < p.top by omega, show ¬ p.brake < 1 by omega, show ¬ 10 < p.brake by omega, show ¬ p.margin < 1 by omega, show ¬ 4000 < p.margin by omega,
  show ¬ p.throw < 1 by omega, show ¬ 20 < p.throw by omega, decide_false, cond_false, h0, Option.bind_some]
 have e3 : AP (EN p) 0 = some true := by
  obtain ⟨b, hb, rfl⟩ := Bm (l := p.lines) (step := EN p) (Post := fun b => b = true) (fun _ _ => True) (fun _ => ⟨true, by simp only [EN, Bw, cond_false], rfl⟩)
   (fun i a h _ => .inr ⟨by have := BY h; simp only [EN, BS h, cond_true, Af, h, Option.bind_some, Lk _ (ha.line i a h), AT (show i < 1000000000 by omega)]; rfl, trivial⟩)
  exact hb
 have e2 : AP (EO p) 0 = some true := by
  obtain ⟨b, hb, rfl⟩ := Bm (l := p.signals) (step := EO p) (Post := fun b => b = true) (fun _ _ => True) (fun _ => ⟨true, by simp only [EO, Bw, cond_false, e3]; rfl, rfl⟩)
   (fun i a h _ => .inr ⟨by have := BY h; simp only [EO, BS h, cond_true, Af, h, Option.bind_some, Lk _ (ha.signal i a h), AT (show i < 1000000000 by omega)]; rfl, trivial⟩)
  exact hb
 obtain ⟨b, hb, rfl⟩ := Bm (l := p.elems) (step := FR p) (Post := fun b => b = true) (fun _ _ => True) (fun _ => ⟨true, by simp only [FR, Bw, cond_false, e2]; rfl, rfl⟩)
  (fun i a h _ => .inr ⟨by
   have := BY h
   have hk := ha.elem i a h
   simp only [FR, BS h, cond_true, Af, h, Option.bind_some, Lk _ hk.name, Mv, AT (show i < 1000000000 by omega), Eh, Kq]
   have e : (CW a.kind == 0) = false := beq_eq_false_iff_ne.2 hk.ends
   by_cases h4 : a.kind = 4
   .simp only [e, h4, if_true, hk.gate h4]; rfl
   obtain ⟨l1, l2⟩ := hk.len h4
   simp only [e, if_neg h4, show ¬ a.length < 1 by omega, show ¬ 4000 < a.length by omega, decide_false]; rfl, trivial⟩)
 exact hb
end Go.E
/- Plain Lean: the program's check takes each valid plan: no text twice, joins, signals, lines, lengths. No condition. -/
namespace Go.E
open Go
theorem O9 {c : List (ByteArray × Bool)} {l : List ByteArray} {i : Nat} {a : ByteArray} (ha : l[i]? = some a)
  (hI : ∀ x, (AZ c x).getD false = true -> ∃ (k : Nat) (b : ByteArray), k < i /\ l[k]? = some b /\ b.toList = x.toList) :
  ∀ x, (AZ (A5 a true c) x).getD false = true -> ∃ (k : Nat) (b : ByteArray), k < i + 1 /\ l[k]? = some b /\ b.toList = x.toList := by
 intro x hx
 have hr : (a == a) = true := by show (a.toList == a.toList) = true; simp
 rw [Nu a true x c hr] at hx
 by_cases h : (x == a) = true
 .have : (x.toList == a.toList) = true := h
  exact ⟨i, a, by omega, ha, by simpa using (by simpa using this : x.toList = a.toList).symm⟩
 rw [if_neg h] at hx
 obtain ⟨k, b, hk, h1, h2⟩ := hI x hx
 exact ⟨k, b, by omega, h1, h2⟩
theorem R7 {c : List (ByteArray × Bool)} {l : List ByteArray} {i : Nat} {a : ByteArray} (ha : l[i]? = some a) (hA : MA l)
  (hI : ∀ x, (AZ c x).getD false = true -> ∃ (k : Nat) (b : ByteArray), k < i /\ l[k]? = some b /\ b.toList = x.toList) : (AZ c a).getD false = false := by
 cases h : (AZ c a).getD false with
 | false => rfl
 | true =>
  obtain ⟨k, b, hk, h1, h2⟩ := hI a h
  exact absurd h2.symm (hA i k a b hk ha h1)
theorem AA6 (p : AO) (hf : FK p) (hA : MA (p.elems.map (·.name))) : AP (E3 p) (0, []) = some false := by
 have q := hf.elems
 obtain ⟨b, hb, rfl⟩ := B9 (l := p.elems) (step := E3 p) (Post := fun b => b = false) (fun i c => ∀ x, (AZ c x).getD false = true -> ∃ (k : Nat) (b : ByteArray), k < i /\ (p.elems.map (·.name))[k]? = some b /\ b.toList = x.toList)
  (fun c _ => ⟨false, by simp only [E3, Bw, cond_false], rfl⟩) (fun i a c ha hI => by
   have := BY ha
   have hm : (p.elems.map (·.name))[i]? = some a.name := by simp [ha]
   refine .inr ⟨_, ?_, O9 hm hI⟩
   simp only [E3, BS ha, cond_true, Jk, Af, ha, Option.bind_some, R7 hm hA hI, cond_false, AT (show i < 1000000000 by omega)]) (c := []) (fun x hx => by simp [AZ] at hx)
 exact hb
theorem AA7 (p : AO) (hf : FK p) (hA : MA (p.signals.map (·.name))) : AP (E4 p) (0, []) = some false := by
 have q := hf.signals
 obtain ⟨b, hb, rfl⟩ := B9 (l := p.signals) (step := E4 p) (Post := fun b => b = false) (fun i c => ∀ x, (AZ c x).getD false = true -> ∃ (k : Nat) (b : ByteArray), k < i /\ (p.signals.map (·.name))[k]? = some b /\ b.toList = x.toList)
  (fun c _ => ⟨false, by simp only [E4, Bw, cond_false], rfl⟩) (fun i a c ha hI => by
   have := BY ha
   have hm : (p.signals.map (·.name))[i]? = some a.name := by simp [ha]
   refine .inr ⟨_, ?_, O9 hm hI⟩
   simp only [E4, BS ha, cond_true, Jl, Af, ha, Option.bind_some, R7 hm hA hI, cond_false, AT (show i < 1000000000 by omega)]) (c := []) (fun x hx => by simp [AZ] at hx)
 exact hb
theorem AA8 (p : AO) (hf : FK p) (hA : MA (p.lines.map (·.name))) : AP (E5 p) (0, []) = some false := by
 have q := hf.lines
 obtain ⟨b, hb, rfl⟩ := B9 (l := p.lines) (step := E5 p) (Post := fun b => b = false) (fun i c => ∀ x, (AZ c x).getD false = true -> ∃ (k : Nat) (b : ByteArray), k < i /\ (p.lines.map (·.name))[k]? = some b /\ b.toList = x.toList)
  (fun c _ => ⟨false, by simp only [E5, Bw, cond_false], rfl⟩) (fun i a c ha hI => by
   have := BY ha
   have hm : (p.lines.map (·.name))[i]? = some a.name := by simp [ha]
   refine .inr ⟨_, ?_, O9 hm hI⟩
   simp only [E5, BS ha, cond_true, Jm, Af, ha, Option.bind_some, R7 hm hA hI, cond_false, AT (show i < 1000000000 by omega)]) (c := []) (fun x hx => by simp [AZ] at hx)
 exact hb
theorem Sv (j : Bx) (x : AE) : ∀ l : List Bx, Cp (l ++ [j]) x = match Cp l x with
  | some y => some y
  | none => if j.a = x then some j.b else if j.b = x then some j.a else none
 | [] => by simp [Cp]
 | k :: l => by
  simp only [List.cons_append, Cp]
  split
  .rfl
  split
  .rfl
  exact Sv j x l
theorem JU {x : AE} : ∀ {l : List Bx}, x ∉ (l.flatMap fun j => [j.a, j.b]) -> Cp l x = none
 | [], _ => rfl
 | j :: l, h => by
  simp only [List.flatMap_cons, List.mem_append, List.mem_cons, List.not_mem_nil, or_false, not_or] at h
  obtain ⟨⟨h1, h2⟩, h3⟩ := h
  simp only [Cp]
  rw [if_neg (fun e => h1 e.symm), if_neg (fun e => h2 e.symm)]
  exact JU h3
theorem UX {p : AO} {i : Nat} {j : Bx} (h : p.joins[i]? = some j) : (CS p)[2 * i]? = some j.a /\ (CS p)[2 * i + 1]? = some j.b := by
 have key : ∀ (l : List Bx) (i : Nat), l[i]? = some j -> (l.flatMap fun j => [j.a, j.b])[2 * i]? = some j.a /\ (l.flatMap fun j => [j.a, j.b])[2 * i + 1]? = some j.b := by
  intro l
  induction l with
  | nil => intro i h; simp at h
  | cons k l ih =>
   intro i h
   cases i with
   | zero => cases h; simp
   | succ i =>
    have := ih i (by simpa using h)
    simp only [List.flatMap_cons, List.cons_append, List.nil_append]
    exact ⟨by rw [show 2 * (i + 1) = 2 * i + 1 + 1 by omega]; simpa using this.1, by rw [show 2 * (i + 1) + 1 = 2 * i + 1 + 1 + 1 by omega]; simpa using this.2⟩
 exact key p.joins i h
theorem Hm.old {p : AO} (hj : Hm p) {i : Nat} {j : Bx} (h : p.joins[i]? = some j) :
  j.a ∉ ((p.joins.take i).flatMap fun j => [j.a, j.b]) /\ j.b ∉ ((p.joins.take i).flatMap fun j => [j.a, j.b]) /\ j.a ≠ j.b := by
 obtain ⟨h1, h2⟩ := UX h
 have hlt := BY h
 have pre : ∀ x, x ∈ ((p.joins.take i).flatMap fun j => [j.a, j.b]) -> ∃ k, k < 2 * i /\ (CS p)[k]? = some x := by
  intro x hx
  obtain ⟨k, hk⟩ := List.mem_iff_getElem?.1 hx
  have hkl := BY hk
  rw [HU, List.length_take] at hkl
  refine ⟨k, by omega, ?_⟩
  have : CS p = ((p.joins.take i).flatMap fun j => [j.a, j.b]) ++ ((p.joins.drop i).flatMap fun j => [j.a, j.b]) := by
   rw [<- List.flatMap_append, List.take_append_drop]; rfl
  rw [this, List.getElem?_append_left (by rw [HU, List.length_take]; omega)]
  exact hk
 refine ⟨fun hx => ?_, fun hx => ?_, ?_⟩
 .obtain ⟨k, hk, e⟩ := pre _ hx; exact hj.dist _ _ _ _ hk h1 e rfl
 .obtain ⟨k, hk, e⟩ := pre _ hx; exact hj.dist _ _ _ _ (by omega) h2 e rfl
 exact hj.dist _ _ _ _ (by omega : 2 * i < 2 * i + 1) h2 h1
theorem Sb {p : AO} (hj : Hm p) {i : Nat} {j : Bx} (h : p.joins[i]? = some j) {c : List (AE × AE)} (hI : ∀ x, AZ c x = Cp (p.joins.take i) x) :
  ∀ x, AZ (A5 j.b j.a (A5 j.a j.b c)) x = Cp (p.joins.take (i + 1)) x := by
 intro x
 obtain ⟨o1, o2, o3⟩ := hj.old h
 rw [DE, DE, List.take_add_one, h]
 simp only [Option.toList_some]
 rw [Sv, hI]
 by_cases h1 : x = j.b
 .subst h1
  rw [if_pos rfl, JU o2]
  simp [o3]
 rw [if_neg h1]
 by_cases h2 : x = j.a
 .subst h2
  rw [if_pos rfl, JU o1]
  simp
 rw [if_neg h2, if_neg (fun e => h2 e.symm), if_neg (fun e => h1 e.symm)]
 cases Cp (p.joins.take i) x <;> rfl
theorem Nx {p : AO} {x : AE} (h : DJ p x = true) : ∃ e, An p.elems x.elem = some e /\ Ap p x.elem = e.kind := by
 obtain ⟨h1, h2, h3⟩ := FM h
 cases hi : An p.elems x.elem with
 | none => simp only [Ap, hi] at h3; simp [CW] at h3; omega
 | some e => exact ⟨e, rfl, by simp [Ap, hi]⟩
theorem R8 (p : AO) (hf : FK p) (hj : Hm p) : ∃ m, Kk p = some (m, true) /\ ∀ x, AZ m x = A0 p x := by
 have q1 := hf.elems; have q2 := hf.joins
 unfold Kk
 have gates : ∀ s : Int × List (AE × AE), (∀ x, AZ s.2 x = A0 p x) -> AP (Ee p s) 0 = some (s.2, true) := by
  intro s hs
  obtain ⟨b, hb, rfl⟩ := Bm (l := p.elems) (step := Ee p s) (Post := fun b => b = (s.2, true)) (fun _ _ => True) (fun _ => ⟨_, by simp only [Ee, Bw, cond_false], rfl⟩) (fun i e he _ => by
   have := BY he
   refine .inr ⟨?_, trivial⟩
   simp only [Ee, BS he, cond_true, Af, he, Option.bind_some, Kq, hs, AT (show i < 1000000000 by omega)]
   by_cases hk : e.kind = 4
   .obtain ⟨y, hy, hyk⟩ := hj.gate i e he hk
    obtain ⟨e', he', hke⟩ := Nx (hj.next hy)
    have : (e'.kind == 4) = false := beq_eq_false_iff_ne.2 (by rw [<- hke]; exact hyk)
    simp [hk, hy, he', this, Kf]
   simp [hk, Kf])
  exact hb
 obtain ⟨b, hb, h1, h2⟩ := B9 (l := p.joins) (step := F9 p) (Post := fun b => b.2 = true /\ ∀ x, AZ b.1 x = A0 p x) (fun i c => ∀ x, AZ c x = Cp (p.joins.take i) x) (fun c hI => by
   rw [List.take_length] at hI
   exact ⟨(c, true), by simp only [F9, Bw, cond_false, gates ((p.joins.length : Int), c) hI]; rfl, rfl, hI⟩) (fun i j c h hI => by
   have := BY h
   obtain ⟨o1, o2, o3⟩ := hj.old h
   obtain ⟨p1, p2⟩ := UX h
   refine .inr ⟨_, ?_, Sb hj h hI⟩
   have e3 : (j.a == j.b) = false := beq_eq_false_iff_ne.2 o3
   simp only [F9, BS h, cond_true, Af, h, Option.bind_some, hI, JU o1, JU o2, e3, Mw, hj.has _ _ p1, hj.has _ _ p2, AT (show i < 1000000000 by omega)]
   rfl) (c := []) (fun x => by simp [AZ, Cp])
 obtain ⟨m, t⟩ := b
 simp only at h1 h2
 subst h1
 exact ⟨m, hb, h2⟩
end Go.E
/- Plain Lean: the program's check takes each valid plan. No condition. -/
namespace Go.E
open Go
theorem Xq {α : Type} {l : List α} {n : Int} {a : α} (h : An l n = some a) : l[n.toNat]? = some a /\ n = (n.toNat : Int) := by
 obtain ⟨h1, h2, h3⟩ := Jg h
 exact ⟨h3, by omega⟩
theorem Nh {α : Type} {l : List α} {k : Nat} {x : α} (h : x ∈ l.take k) : ∃ j, j < k /\ l[j]? = some x := by
 obtain ⟨j, hj⟩ := List.mem_iff_getElem?.1 h
 have := BY hj
 rw [List.length_take] at this
 rw [List.getElem?_take, if_pos (by omega)] at hj
 exact ⟨j, by omega, hj⟩
theorem RU (p : AO) (hv : Ce p) (m : List (AE × AE)) (hm : ∀ x, AZ m x = A0 p x) : Jn p m = some true := by
 have q1 := hv.few.elems; have q3 := hv.few.signals
 have hs := hv.sig
 unfold Jn
 have gates : ∀ s : Int × List (AE × Bool), (∀ x, (AZ s.2 x).getD false = decide (x ∈ p.signals.map (·.at_))) -> AP (EP p s) 0 = some true := by
  intro s hS
  obtain ⟨b, hb, rfl⟩ := Bm (l := p.elems) (step := EP p s) (Post := fun b => b = true) (fun _ _ => True) (fun _ => ⟨_, by simp only [EP, Bw, cond_false], rfl⟩) (fun i e he _ => by
   have := BY he
   refine .inr ⟨?_, trivial⟩
   simp only [EP, BS he, cond_true, Af, he, Option.bind_some, Eh, hS, AT (show i < 1000000000 by omega)]
   by_cases hk : e.kind = 4
   .have h0 := hs.gate i e he hk
    have : (⟨(i : Int), 0⟩ : AE) ∈ p.signals.map (·.at_) := by
     rcases J7 ⟨(i : Int), 0⟩ p.signals 0 with ⟨h1, _⟩ | ⟨k, t, h1, h2, _⟩
     .unfold BD at h0; rw [h1] at h0; omega
     exact List.mem_map.2 ⟨t, List.mem_of_getElem? h1, h2⟩
    simp only [if_pos hk, this, decide_true]; rfl
   simp only [if_neg hk]; rfl)
  exact hb
 obtain ⟨b, hb, rfl⟩ := B9 (l := p.signals) (step := FT p m) (Post := fun b => b = true) (fun i c => ∀ x, (AZ c x).getD false = decide (x ∈ (p.signals.take i).map (·.at_))) (fun c hI => by
   rw [List.take_length] at hI
   exact ⟨true, by simp only [FT, Bw, cond_false, gates ((p.signals.length : Int), c) hI]; rfl, rfl⟩) (fun i s c h hI => by
   have := BY h
   obtain ⟨e, he, hke⟩ := Nx (hs.has i s h)
   obtain ⟨y, hy, hyk⟩ := hs.next i s h
   obtain ⟨e', he', hke'⟩ := Nx (hv.join.next hy)
   have hk : ((bif (e.kind != 1) then some (e.kind != 4) else some false : Option Bool)) = some false := by
    rcases hs.kind i s h with hk | hk <;> rw [hke] at hk <;> simp [hk]
   have hk' : (e'.kind == 4) = false := beq_eq_false_iff_ne.2 (by rw [<- hke']; exact hyk)
   have hnew : ¬ s.at_ ∈ (p.signals.take i).map (·.at_) := by
    intro hx
    obtain ⟨t, ht, hte⟩ := List.mem_map.1 hx
    obtain ⟨j, hj, hjt⟩ := Nh ht
    have h1 := hs.reads i s h
    have h2 := hs.reads j t hjt
    rw [hte, h1] at h2
    omega
   refine .inr ⟨A5 s.at_ true c, ?_, fun x => ?_⟩
   .simp only [FT, BS h, cond_true, Af, h, Option.bind_some, Mw, hs.has i s h, hI, hnew, decide_false, he, hk, hm, hy, Option.isSome_some, Option.getD_some, he', hk', Bool.not_true, cond_false, AT (show i < 1000000000 by omega)]
   rw [DE, List.take_add_one, h]
   simp only [Option.toList_some, List.map_append, List.map_cons, List.map_nil, List.mem_append, List.mem_singleton]
   by_cases hx : x = s.at_
   .simp [hx]
   rw [if_neg hx, hI]; simp only [hx, or_false]) (c := []) (fun x => by simp [AZ])
 exact hb
theorem Wm {p : AO} {m : List (AE × AE)} (hm : ∀ x, AZ m x = A0 p x) (x : AE) (f : Int) : ((bif (AZ m x).isSome then some (((AZ m x).getD ⟨0, 0⟩).elem == f) else some false : Option Bool)) = some (decide (IC p x f)) := by
 rw [hm]; exact Sn p x f
theorem Xt {p : AO} : ∀ {r : List Int} {o e : Int} {f : Int}, KY p o e (f :: r) -> ∃ y, A0 p ⟨e, o⟩ = some y /\ y.elem = f /\ KY p (1 - y.fin) f r := fun h => h
theorem U7 (p : AO) (hv : Ce p) (m : List (AE × AE)) (hm : ∀ x, AZ m x = A0 p x) (l : List Int) (hl : O4 p l) (hlen : l.length <= 60) : NY l m = some true := by
 unfold NY
 by_cases h2 : (l.length : Int) < 2
 .simp [h2]
 have hd : decide ((l.length : Int) < 2) = false := by simpa using h2
 simp only [hd, cond_false]
 obtain ⟨a, b, r, rfl⟩ : ∃ a b r, l = a :: b :: r := by
  match l, h2 with
  | [], h => simp at h
  | [a], h => simp at h
  | a :: b :: r, _ => exact ⟨a, b, r, rfl⟩
 have i0 : An (a :: b :: r) 0 = some a := rfl
 have i1 : An (a :: b :: r) 1 = some b := rfl
 obtain ⟨hs, hc⟩ := hl.chain a b r rfl
 have st : ∀ (o e : Int), 0 <= e -> Eu (a :: b :: r) m (o, e) = some (.inl (if IC p ⟨a, e⟩ b then e else o, Ae (e - 1))) := by
  intro o e he
  simp only [Eu, he, decide_true, cond_true, i0, i1, Option.bind_some, Wm hm]
  by_cases hm : IC p ⟨a, e⟩ b <;> simp [hm]
 have two : AP (Eu (a :: b :: r) m) ((-1), 1) = AP (Eu (a :: b :: r) m) (ER p a b, -1) := by
  rw [B2 (st (-1) 1 (by omega)), show Ae (1 - 1) = 0 by decide, B2 (st _ 0 (by omega)), show Ae (0 - 1) = -1 by decide]
  rfl
 rw [two, IY]
 have hsd : decide (ER p a b < 0) = false := by simp; omega
 simp only [Eu, show decide ((0 : Int) <= -1) = false by decide, cond_false, hsd]
 have key : AP (GY (a :: b :: r) m) (ER p a b, 1) = some true := by
  obtain ⟨t, ht, rfl⟩ : ∃ t, AP (GY (a :: b :: r) m) (ER p a b, 1) = some t /\ t = true := by
   refine EZ (fun k s => k + 1 <= (a :: b :: r).length /\ s.2 = ((k + 1 : Nat) : Int) /\ ∀ e, (a :: b :: r)[k]? = some e -> KY p s.1 e ((a :: b :: r).drop (k + 1))) (a :: b :: r).length ?_ ⟨by simp, rfl, fun e he => by cases he; exact hc⟩
   rintro k ⟨o, i⟩ ⟨hk, hi, hch⟩
   simp only at hi hch
   subst hi
   generalize hL : a :: b :: r = L at *
   by_cases he : k + 1 = L.length
   .have : decide (((k + 1 : Nat) : Int) < L.length) = false := by simp; omega
    exact .inl ⟨true, by simp only [GY, this, cond_false], rfl⟩
   have hlt : k + 1 < L.length := by omega
   have : decide (((k + 1 : Nat) : Int) < L.length) = true := by simp; omega
   have ha : L[k]? = some (L[k]'(by omega)) := List.getElem?_eq_getElem _
   have hb : L[k + 1]? = some (L[k + 1]'hlt) := List.getElem?_eq_getElem _
   have e1 : Ae (((k + 1 : Nat) : Int) - 1) = (k : Int) := by rw [CL] <;> omega
   have := hch _ ha
   rw [List.drop_eq_getElem_cons hlt] at this
   obtain ⟨y, hn, hy, hrest⟩ := Xt this
   obtain ⟨f1, f2, _⟩ := FM (hv.join.next hn)
   have e2 : (y.elem != L[k + 1]'hlt) = false := by simp [hy]
   have hd : decide (((k + 1 : Nat) : Int) < L.length) = true := by simp; omega
   refine .inr ⟨by omega, (1 - y.fin, ((k + 1 + 1 : Nat) : Int)), ?_, by omega, rfl, fun e he' => ?_⟩
   .simp only [GY, hd, cond_true, e1, Af, ha, hb, Option.bind_some, hm, hn, Option.isSome_some, Option.getD_some, Bool.not_true, cond_false, e2,
     AT (show k + 1 < 1000000000 by omega), CL (n := 1 - y.fin) (by omega) (by omega)]
   rw [hb] at he'; cases he'; exact hrest
  exact ht
 rw [key]; rfl
theorem S9 (p : AO) (hv : Ce p) (m : List (AE × AE)) (hm : ∀ x, AZ m x = A0 p x) : LY p m = some true := by
 have q1 := hv.few.elems; have q4 := hv.few.lines
 have nod := hv.line.once
 unfold LY
 obtain ⟨b, hb, rfl⟩ := B9 (l := p.lines) (step := Gv p m) (Post := fun b => b = true) (fun i c => ∀ x, (AZ c x).getD false = decide (x ∈ (p.lines.take i).flatMap (·.elems))) (fun c hI => ⟨true, by simp only [Gv, Bw, cond_false], rfl⟩) (fun i a c ha hI => by
   have := BY ha
   have hl := hv.line.line i a ha
   have hal := (hv.few.line i a ha).1
   have h0 : ((a.elems.length : Int) == 0) = false := by rw [beq_eq_false_iff_ne]; have := hl.one; omega
   simp only [Gv, BS ha, cond_true, Af, ha, Option.bind_some, h0, cond_false]
   have split : p.lines.flatMap (·.elems) = (p.lines.take i).flatMap (·.elems) ++ (a.elems ++ (p.lines.drop (i + 1)).flatMap (·.elems)) := by
    rw [<- List.append_assoc, <- Fp ha, <- List.flatMap_append, List.take_append_drop]
   rw [split] at nod
   obtain ⟨r, hr, c', rfl, hc'⟩ : ∃ r, AP (Gu p m ((i : Int), c) a) (0, c) = some r /\ ∃ c', r = .inl (((i + 1 : Nat) : Int), c') /\ ∀ x, (AZ c' x).getD false = decide (x ∈ (p.lines.take (i + 1)).flatMap (·.elems)) := by
    refine B9 (l := a.elems) (fun k d => ∀ x, (AZ d x).getD false = decide (x ∈ (p.lines.take i).flatMap (·.elems) ++ a.elems.take k)) (fun d hd => ?_) (fun k e d he hd => ?_) (c := c) (fun x => by simpa using hI x)
    .rw [List.take_length] at hd
     refine ⟨.inl (((i + 1 : Nat) : Int), d), ?_, d, rfl, fun x => by rw [hd, Fp ha]⟩
     simp only [Gu, Bw, cond_false, U7 p hv m hm a.elems hl hal, Option.bind_some, AT (show i < 1000000000 by omega)]; rfl
    have hk := BY he
    have ht := hl.track k e he
    obtain ⟨el, hel⟩ : ∃ el, An p.elems e = some el := by
     cases h : An p.elems e with
     | none => simp [Ap, h] at ht
     | some el => exact ⟨el, rfl⟩
    obtain ⟨g1, g2⟩ := Rs hel
    have hke : el.kind = 1 := by simpa [Ap, hel] using ht
    have hnew : ¬ e ∈ (p.lines.take i).flatMap (·.elems) ++ a.elems.take k := by
     intro hx
     rcases List.mem_append.1 hx with hx | hx
     .exact (List.nodup_append.1 nod).2.2 e hx e (List.mem_append_left _ (List.mem_of_getElem? he)) rfl
     obtain ⟨j, hj, hje⟩ := Nh hx
     have nd := (List.nodup_append.1 (List.nodup_append.1 nod).2.1).1
     have := (List.getElem?_inj (BY hje) nd).1 (hje.trans he.symm)
     omega
    refine .inr ⟨A5 e true d, ?_, fun x => ?_⟩
    .simp only [Gu, BS he, cond_true, Af, he, Option.bind_some, show ¬ e < 0 by omega, show ¬ (p.elems.length : Int) <= e by omega, decide_false, cond_false, hel, hke, hd, hnew, AT (show k < 1000000000 by omega)]
     rfl
    rw [DE, List.take_add_one, he]
    simp only [Option.toList_some, <- List.append_assoc]
    by_cases hx : x = e
    .simp [hx]
    rw [if_neg hx, hd]; simp only [List.mem_append, List.mem_singleton, hx, or_false]
   exact .inr ⟨c', hr, hc'⟩) (c := []) (fun x => by simp [AZ])
 exact hb
theorem UZ (p : AO) (hv : Ce p) : MS p = some true := by
 have q1 := hv.few.elems; have q3 := hv.few.signals; have q4 := hv.args.top; have q5 := hv.args.margin
 obtain ⟨n, hn, n1, n2⟩ := RO p.top p.brake
 have hs := hv.long.stop n hn
 have hn' : Pj p.top p.brake = some n := hn
 unfold MS
 simp only [hn', Option.bind_some]
 rw [CL (n := p.top + n) (by omega) (by omega)]
 have hd : decide (p.margin < p.top + n) = false := by simp; omega
 simp only [hd, cond_false]
 have e2 : AP (Ff p) 0 = some true := by
  obtain ⟨b, hb, rfl⟩ := Bm (l := p.elems) (step := Ff p) (Post := fun b => b = true) (fun _ _ => True) (fun _ => ⟨true, by simp only [Ff, Bw, cond_false], rfl⟩) (fun i e he _ => by
   have := BY he
   refine .inr ⟨?_, trivial⟩
   simp only [Ff, BS he, cond_true, Af, he, Option.bind_some, Kq, AT (show i < 1000000000 by omega)]
   by_cases hk : e.kind = 4
   .simp [hk]
   have := hv.long.elem i e he hk
   simp only [if_neg hk, show ¬ e.length < p.top by omega, decide_false]; rfl)
  exact hb
 obtain ⟨b, hb, rfl⟩ := Bm (l := p.signals) (step := Hh p) (Post := fun b => b = true) (fun _ _ => True) (fun _ => ⟨true, by simp only [Hh, Bw, cond_false, e2]; rfl, rfl⟩) (fun i s h _ => by
  have := BY h
  obtain ⟨e, he, hke⟩ := Nx (hv.sig.has i s h)
  have hle : Ju p s.at_.elem = e.length := by simp [Ju, he]
  refine .inr ⟨?_, trivial⟩
  simp only [Hh, BS h, cond_true, Af, h, Option.bind_some, Eh, he, AT (show i < 1000000000 by omega)]
  by_cases hk : e.kind = 1
  .have := hv.long.signal i s h (by rw [hke]; exact hk)
   rw [hle] at this
   simp only [if_pos hk, show ¬ e.length < p.margin by omega, decide_false]; rfl
  simp only [if_neg hk]; rfl)
 exact hb
theorem S6 (p : AO) (hv : Ce p) : LZ p = some 0 := by
 have h1 := hv.ne; have h2 := hv.ns; have h3 := hv.nl; have h4 := hv.nj
 obtain ⟨m, hm, hn⟩ := R8 p hv.few hv.join
 unfold LZ
 simp only [show ¬ (40 : Int) < p.elems.length by omega, show ¬ (24 : Int) < p.signals.length by omega, show ¬ (4 : Int) < p.lines.length by omega, show ¬ (80 : Int) < p.joins.length by omega, decide_false, cond_false, Option.bind_some,
  Wi p hv.few hv.args, Bool.not_true, AA6 p hv.few hv.n1, AA7 p hv.few hv.n2, AA8 p hv.few hv.n3, hm, RU p hv m hn, S9 p hv m hn, UZ p hv]
end Go.E
/- Plain Lean: the net that the program makes of a valid plan. No condition. -/
namespace Go.E
open Go
structure DG (p : AO) (n : CX) : Prop where
 plan : n.p = p
 next : ∀ x, AZ n.next x = A0 p x
 reads : ∀ x, AZ n.reads x = if 0 <= BD p x then some (BD p x) else none
theorem EI {α : Type} [DecidableEq α] (l : List α) (h : l.length <= 1000000) : MQ l (some []) ((A7 ([] : List α) l).bind fun y => some y) = some l := by
 rw [A2 (by simp; omega)]
 cases l with
 | nil => simp [MQ, agree]
 | cons a l => rfl
theorem Vb (p : AO) (hf : FK p) : K1 p = some p := by
 have q1 := hf.elems; have q2 := hf.joins; have q3 := hf.signals; have q4 := hf.lines
 have c1 : H4 p.elems = some p.elems := EI _ (by omega)
 have c2 : H5 p.joins = some p.joins := EI _ (by omega)
 have c3 : HQ p.signals = some p.signals := EI _ (by omega)
 have c4 : H6 p.lines = some p.lines := EI _ (by omega)
 unfold K1
 simp only [c1, c2, c3, c4, Option.bind_some]
 obtain ⟨b, hb, rfl⟩ := B9 (l := p.lines) (step := IN p p.elems p.joins p.signals p.lines) (Post := fun b => b = p) (fun i c => c = p.lines) (fun c hc => by
   subst hc; exact ⟨p, by simp only [IN, Bw, cond_false], rfl⟩) (fun i a c ha hc => by
   subst hc
   have := BY ha
   have hal := (hf.line i a ha).1
   have c5 : CF a.elems = some a.elems := EI _ (by omega)
   refine .inr ⟨p.lines, ?_, rfl⟩
   simp only [IN, BS ha, cond_true, Af, ha, Option.bind_some, c5, AT (show i < 1000000000 by omega)]
   have : IX p.lines (i : Int) (⟨a.name, a.elems⟩ : CN) = p.lines := by
    unfold IX
    apply List.ext_getElem?
    intro k
    rw [List.getElem?_set]
    split
    .rename_i h; simp only [Int.toNat_natCast] at h; subst h; split
     .exact ha.symm
     rename_i h2; simp at h2; omega
    rfl
   rw [this]) (c := p.lines) rfl
 exact hb
theorem RD (x : AE) (s : BI) : ∀ (l : List BI) (i : Nat), Cw x i (l ++ [s]) = if 0 <= Cw x i l then Cw x i l else if s.at_ = x then ((i + l.length : Nat) : Int) else -1
 | [], i => by simp [Cw]
 | t :: l, i => by
  by_cases h : t.at_ = x
  .simp [Cw, h]
  have e : ∀ r, Cw x i (t :: r) = Cw x (i + 1) r := fun r => by simp [Cw, h]
  simp only [List.cons_append, e, RD x s l (i + 1), List.length_cons]
  rw [show i + 1 + l.length = i + (l.length + 1) by omega]
theorem XV (p y15 : AO) (hf : FK p) (s58 : Int × List (AE × AE)) (s140 : Int × List (AE × Int)) : ∃ a b, AP (HR p y15 s58 s140) (0, [], []) = some (some ⟨y15, s58.2, s140.2, a, b⟩, 0) := by
 have q4 := hf.lines
 obtain ⟨r, hr, a, b, rfl⟩ : ∃ r, AP (HR p y15 s58 s140) (0, [], []) = some r /\ ∃ a b, r = (some ⟨y15, s58.2, s140.2, a, b⟩, 0) := by
  refine B9 (l := p.lines) (fun _ _ => True) (fun c _ => ⟨_, by simp only [HR, Bw, cond_false], c.1, c.2, rfl⟩) (fun i l c h _ => ?_) (c := (([], []) : List (Int × Gh) × List (Int × Int))) trivial
  have := BY h
  have hal := (hf.line i l h).1
  obtain ⟨t, ht⟩ : ∃ t : Int, ((bif decide (1 < (l.elems.length : Int)) then (An l.elems 0).bind fun y1186 => ((bif (AZ s58.2 (⟨y1186, 0⟩ : AE)).isSome then (An l.elems 1).bind fun y1195 => some ((((AZ s58.2 (⟨y1186, 0⟩ : AE)).getD (⟨0, 0⟩ : AE)).elem) == y1195) else some false : Option (Bool))).bind fun (t1192 : Bool) => bif t1192 then some 1 else some 0 else some 0 : Option (Int))) = some t := by
   match hl : l.elems with
   | [] => exact ⟨0, by simp⟩
   | [a] => exact ⟨0, by simp⟩
   | a :: b :: r =>
    have hd : decide (1 < ((a :: b :: r).length : Int)) = true := by simp; omega
    have i0 : An (a :: b :: r) 0 = some a := rfl
    have i1 : An (a :: b :: r) 1 = some b := rfl
    simp only [hd, cond_true, i0, i1, Option.bind_some]
    cases (AZ s58.2 (⟨a, 0⟩ : AE)).isSome with
    | false => exact ⟨0, rfl⟩
    | true =>
     simp only [cond_true, Option.bind_some]
     cases ((AZ s58.2 (⟨a, 0⟩ : AE)).getD (⟨0, 0⟩ : AE)).elem == b with
     | false => exact ⟨0, rfl⟩
     | true => exact ⟨1, rfl⟩
  refine .inr ?_
  simp only [HR, BS h, cond_true, Af, h, Option.bind_some, ht]
  obtain ⟨r, hr, c', rfl⟩ : ∃ r, AP (JD s58 ((i : Int), c) l) (t, 0, c.1, c.2) = some r /\ ∃ c', r = .inl (((i + 1 : Nat) : Int), c') := by
   refine EZ (fun k s => s.2.1 = (k : Int) /\ k <= l.elems.length) l.elems.length ?_ ⟨rfl, Nat.zero_le _⟩
   rintro k ⟨x, j, d1, d2⟩ ⟨hj, hk⟩
   simp only at hj
   subst hj
   by_cases he : k = l.elems.length
   .subst he
    exact .inl ⟨.inl (((i + 1 : Nat) : Int), d1, d2), by simp only [JD, Bw, cond_false, AT (show i < 1000000000 by omega)], (d1, d2), rfl⟩
   have ha : l.elems[k]? = some (l.elems[k]'(by omega)) := List.getElem?_eq_getElem _
   exact .inr ⟨by omega, (((AZ s58.2 (⟨l.elems[k]'(by omega), Ae (1 - x)⟩ : AE)).getD (⟨0, 0⟩ : AE)).fin, ((k + 1 : Nat) : Int), A5 (l.elems[k]'(by omega)) (⟨(i : Int), (k : Int)⟩ : Gh) d1, A5 (l.elems[k]'(by omega)) x d2), by simp only [JD, BS ha, cond_true, Af, ha, Option.bind_some, AT (show k < 1000000000 by omega)], rfl, by omega⟩
  exact ⟨c', hr, trivial⟩
 exact ⟨a, b, hr⟩
theorem AAt (p : AO) (hv : Ce p) : ∃ n, SV p = some (some n, 0) /\ DG p n := by
 have q2 := hv.few.joins; have q3 := hv.few.signals
 unfold SV
 simp only [S6 p hv, Option.bind_some, bne_self_eq_false, cond_false, Vb p hv.few]
 have l2 : ∀ s58 : Int × List (AE × AE), (∀ x, AZ s58.2 x = A0 p x) -> ∃ r, AP (JE p p s58) (0, []) = some r /\ ∃ n, r = (some n, 0) /\ DG p n := by
  intro s58 hs
  refine B9 (l := p.signals) (fun i c => ∀ x, AZ c x = if 0 <= Cw x 0 (p.signals.take i) then some (Cw x 0 (p.signals.take i)) else none) (fun c hI => ?_) (fun i s c h hI => ?_) (c := []) (fun x => by simp [AZ, Cw])
  .rw [List.take_length] at hI
   obtain ⟨a, b, hr⟩ := XV p p hv.few s58 ((p.signals.length : Int), c)
   exact ⟨_, by simp only [JE, Bw, cond_false, hr]; rfl, _, rfl, ⟨rfl, hs, hI⟩⟩
  have := BY h
  refine .inr ⟨A5 s.at_ (i : Int) c, by simp only [JE, BS h, cond_true, Af, h, Option.bind_some, AT (show i < 1000000000 by omega)], fun x => ?_⟩
  have hlen : (p.signals.take i).length = i := by rw [List.length_take]; omega
  rw [DE, List.take_add_one, h]
  simp only [Option.toList_some, RD, hI, hlen]
  by_cases hx : x = s.at_
  .subst hx
   have hr := hv.sig.reads i s h
   have hnot : ¬ 0 <= Cw s.at_ 0 (p.signals.take i) := by
    intro h0
    rcases J7 s.at_ (p.signals.take i) 0 with ⟨h1, _⟩ | ⟨k, t, h1, h2, _, _⟩
    .omega
    obtain ⟨j, hj, hjt⟩ := Nh (List.mem_of_getElem? h1)
    have := hv.sig.reads j t hjt
    rw [h2, hr] at this
    omega
   rw [if_pos rfl, if_neg hnot, if_pos rfl, if_pos (by omega)]
   simp
  have hx' : ¬ s.at_ = x := fun e => hx e.symm
  by_cases h0 : 0 <= Cw x 0 (p.signals.take i)
  .simp only [if_neg hx, if_pos h0]
  simp only [if_neg hx, if_neg h0, if_neg hx']; rfl
 obtain ⟨r, hr, n, rfl, hn⟩ : ∃ r, AP (JF p p) (0, []) = some r /\ ∃ n, r = (some n, 0) /\ DG p n := by
  refine B9 (l := p.joins) (fun i c => ∀ x, AZ c x = Cp (p.joins.take i) x) (fun c hI => ?_) (fun i j c h hI => ?_) (c := []) (fun x => by simp [AZ, Cp])
  .rw [List.take_length] at hI
   obtain ⟨r, hr, h⟩ := l2 ((p.joins.length : Int), c) hI
   exact ⟨r, by simp only [JF, Bw, cond_false, hr]; rfl, h⟩
  have := BY h
  exact .inr ⟨_, by simp only [JF, BS h, cond_true, Af, h, Option.bind_some, AT (show i < 1000000000 by omega)], Sb hv.join h hI⟩
 exact ⟨n, hr, hn⟩
end Go.E
/- Plain Lean: sorted rows without repetition. No condition. -/
namespace Go.E
open Go
theorem Nk : ∀ {a b : List Int}, a.Pairwise (· < ·) -> b.Pairwise (· < ·) -> (∀ x, x ∈ a ↔ x ∈ b) -> a = b
 | [], [], _, _, _ => rfl
 | [], y :: b, _, _, h => by have := (h y).2 (by simp); simp at this
 | x :: a, [], _, _, h => by have := (h x).1 (by simp); simp at this
 | x :: a, y :: b, ha, hb, h => by
  rw [List.pairwise_cons] at ha hb
  have hxy : x = y := by
   have h1 : x ∈ y :: b := (h x).1 (by simp)
   have h2 : y ∈ x :: a := (h y).2 (by simp)
   rcases List.mem_cons.1 h1 with e | h1
   .exact e
   rcases List.mem_cons.1 h2 with e | h2
   .exact e.symm
   have := ha.1 y h2; have := hb.1 x h1; omega
  subst hxy
  rw [Nk ha.2 hb.2 fun z => ?_]
  constructor
  .intro hz
   rcases List.mem_cons.1 ((h z).1 (List.mem_cons_of_mem _ hz)) with rfl | hz'
   .have := ha.1 z hz; omega
   exact hz'
  intro hz
  rcases List.mem_cons.1 ((h z).2 (List.mem_cons_of_mem _ hz)) with rfl | hz'
  .have := hb.1 z hz; omega
  exact hz'
end Go.E
/- Plain Lean: what a net says is what the plan says. No condition. -/
namespace Go.E
open Go
theorem Lg (p : AO) (e : Int) : HS p e = some (Ap p e) := by
 unfold HS; rw [Ei]; rfl
section
variable {p : AO} {n : CX}
theorem Yi (h : DG p n) (e : Int) : Jp n e = some ((An p.elems e).getD ⟨ByteArray.empty, 0, 0⟩) := by
 unfold Jp
 rw [h.plan]
 by_cases h1 : e < 0
 .simp [h1, FJ (.inl h1)]
 by_cases h2 : (p.elems.length : Int) <= e
 .simp [h1, h2, FJ (.inr h2)]
 obtain ⟨a, ha⟩ := Oz (l := p.elems) (n := e) (by omega) (by omega)
 simp [h1, h2, ha]
theorem QG (h : DG p n) (e : Int) : EY n e = some (Ap p e) := by
 unfold EY Ap
 rw [Yi h]
 cases An p.elems e <;> rfl
theorem QH (h : DG p n) (x : AE) : C3 n x = some ((A0 p x).getD ⟨0, 0⟩, (A0 p x).isSome) := by
 unfold C3; rw [h.next]
theorem UO (p : AO) (x : AE) : BD p x = -1 \/ (0 <= BD p x /\ BD p x < p.signals.length) := by
 rcases J7 x p.signals 0 with ⟨h, _⟩ | ⟨k, s, h1, _, h3, _⟩
 .exact .inl h
 have := BY h1
 right
 unfold BD
 rw [h3]; omega
theorem Xd (h : DG p n) (x : AE) : JH n x = some (BD p x) := by
 unfold JH
 rw [h.reads]
 rcases UO p x with h1 | ⟨h1, _⟩
 .rw [if_neg (by omega), h1]; rfl
 rw [if_pos h1]; rfl
def CR (p : AO) (e i : Int) : List DM :=
 if DJ p ⟨e, i⟩ then if Ap p e = 1 then [⟨1 - i, 0⟩] else if Ap p e = 3 then [⟨if i = 0 then 1 else if i = 1 then 0 else if i = 2 then 3 else 2, 0⟩] else if Ap p e = 2 then if i = 0 then [⟨1, 1⟩, ⟨2, 2⟩] else [⟨0, i⟩] else [] else []
theorem RK (p : AO) (e i : Int) : Ip p e i = some (CR p e i) := by
 unfold Ip CR
 simp only [J6, Option.bind_some, Ei, Eh]
 cases hh : DJ p ⟨e, i⟩ with
 | false => rfl
 | true =>
  obtain ⟨h1, h2, h3⟩ := FM hh
  simp only at h1 h2 h3
  simp only [Bool.not_true, cond_false, if_true]
  by_cases k1 : Ap p e = 1
  .simp only [if_pos k1, CL (n := 1 - i) (by omega) (by omega)]
  by_cases k3 : Ap p e = 3
  .simp only [if_neg k1, if_pos k3]
   have : i = 0 \/ i = 1 \/ i = 2 \/ i = 3 := by omega
   rcases this with rfl | rfl | rfl | rfl <;> rfl
  by_cases k2 : Ap p e = 2
  .simp only [if_neg k1, if_neg k3, if_pos k2]
   by_cases i0 : i = 0 <;> simp [i0]
  simp only [if_neg k1, if_neg k3, if_neg k2]
theorem Yj (h : DG p n) (e i : Int) : Jq n e i = some (CR p e i) := by
 unfold Jq CR
 simp only [QG h, Option.bind_some, Mv, Eh]
 by_cases h0 : i < 0
 .have : DJ p ⟨e, i⟩ = false := by simp [DJ]; omega
  simp [h0, this]
 by_cases h1 : CW (Ap p e) <= i
 .have : DJ p ⟨e, i⟩ = false := by simp [DJ]; omega
  simp [h0, h1, this]
 have hh : DJ p ⟨e, i⟩ = true := by simp [DJ]; omega
 obtain ⟨_, h2, h3⟩ := FM hh
 simp only at h2 h3
 simp only [h0, h1, decide_false, cond_false, Option.bind_some, hh, if_true]
 by_cases k1 : Ap p e = 1
 .simp only [if_pos k1, CL (n := 1 - i) (by omega) (by omega)]
 by_cases k3 : Ap p e = 3
 .simp only [if_neg k1, if_pos k3]
  have : i = 0 \/ i = 1 \/ i = 2 \/ i = 3 := by omega
  rcases this with rfl | rfl | rfl | rfl <;> rfl
 by_cases k2 : Ap p e = 2
 .simp only [if_neg k1, if_neg k3, if_pos k2]
  rw [k2] at h3
  have : i = 0 \/ i = 1 \/ i = 2 := by simp [CW] at h3; omega
  rcases this with rfl | rfl | rfl <;> rfl
 simp only [if_neg k1, if_neg k3, if_neg k2]
def Ck : List DM -> Int -> Option Int
 | [], _ => none
 | w :: r, x => if w.pos = 0 \/ w.pos = x then some w.out else Ck r x
def BX (p : AO) (e i x : Int) : Option Int := Ck (CR p e i) x
theorem L9 (p : AO) (e i : Int) : (CR p e i).length <= 2 := by
 unfold CR
 repeat' split
 all_goals simp
theorem U2 (h : DG p n) (e i x : Int) : Ho n e i x = some ((BX p e i x).getD 0, (BX p e i x).isSome) := by
 unfold Ho BX
 rw [Yj h]
 simp only [Option.bind_some]
 have hl := L9 p e i
 refine Ir (γ := Unit) (CR p e i) (fun k _ => (k : Int)) (fun _ _ r => some ((Ck r x).getD 0, (Ck r x).isSome)) (fun _ => ?_) (fun k _ a r ha hi => ?_) ()
 .simp [GB, Ck]
 simp only [GB, Af, ha, Option.bind_some, BS ha, cond_true, Ck, Eh]
 by_cases h1 : a.pos = 0
 .left; simp [h1]
 by_cases h2 : a.pos = x
 .left
  simp [h1, h2]
 right
 have : (a.pos == x) = false := beq_eq_false_iff_ne.2 h2
 exact ⟨(), by simp [h1, this, AT (show k < 1000000000 by omega)], by simp [h1, h2]⟩
end
end Go.E
/- Plain Lean: RoadFinds answers true, for every argument. No condition. -/
namespace Go.E
open Go
theorem Z2 {α : Type} [DecidableEq α] {a b : List α} (hl : a.length = b.length) (hb : a.length < 1000000) {step : Int -> Option (Int ⊕ Bool)}
    (h : ∀ i : Nat, i <= a.length -> step (i : Int) = if h : i < a.length then (if a[i] = b[i]'(by omega) then some (.inl ((i + 1 : Nat) : Int)) else some (.inr false)) else some (.inr true)) : AP step 0 = some (decide (a = b)) := by
  by_cases hab : a = b
  . subst hab
    obtain ⟨r, h1, h2⟩ := Bm (l := a) (step := step) (Post := fun r => r = true) (fun _ _ => True) (fun _ => ⟨true, by rw [h _ (Nat.le_refl _)]; simp, rfl⟩)
      (fun i x hx _ => .inr ⟨by have := BY hx; rw [h _ (by omega), dif_pos this, if_pos rfl], trivial⟩)
    rw [h1, h2]; simp
  obtain ⟨r, h1, h2⟩ := Bm (l := a) (step := step) (Post := fun r => r = false) (fun i x => b[i]? = some x) (fun good => by
      exfalso; refine hab (List.ext_getElem hl fun i h1 h2 => ?_)
      have := good i _ (List.getElem?_eq_getElem h1)
      rw [List.getElem?_eq_getElem h2] at this
      exact (Option.some.inj this).symm)
    (fun i x hx _ => by
      have hi := BY hx
      have hx' : a[i] = x := Option.some.inj ((List.getElem?_eq_getElem hi).symm.trans hx)
      rw [h _ (by omega), dif_pos hi]
      by_cases e : a[i] = b[i]'(by omega)
      . exact .inr ⟨by rw [if_pos e], by rw [List.getElem?_eq_getElem (by omega), <- e, hx']⟩
      exact .inl ⟨false, by rw [if_neg e], rfl⟩)
  rw [h1, h2]; simp [hab]
theorem Z3 {α : Type} [DecidableEq α] {a b : List α} (hl : a.length = b.length) (hb : a.length < 1000000) (i : Nat) (hi : i <= a.length) :
  (bif decide ((i : Int) < (a.length : Int)) then (An a i).bind fun y => (An b i).bind fun z => bif (!(y == z)) then some (.inr false) else some (.inl (Ae ((i : Int) + 1))) else some (.inr true) : Option (Int ⊕ Bool)) =
   if h : i < a.length then (if a[i] = b[i]'(by omega) then some (.inl ((i + 1 : Nat) : Int)) else some (.inr false)) else some (.inr true) := by
 by_cases h : i < a.length
 .have d : decide ((i : Int) < (a.length : Int)) = true := by simpa using h
  have h2 : b[i]? = some (b[i]'(by omega)) := List.getElem?_eq_getElem _
  simp only [d, cond_true, Af, List.getElem?_eq_getElem h, h2, Option.bind_some, dif_pos h, AT (show i < 1000000000 by omega)]
  by_cases e : a[i] = b[i]'(by omega)
  .simp [e]
  have : (a[i] == b[i]'(by omega)) = false := beq_eq_false_iff_ne.2 e
  simp only [this, Bool.not_false, cond_true, if_neg e]
 have d : decide ((i : Int) < (a.length : Int)) = false := by simp; omega
 simp only [d, cond_false, dif_neg h]
theorem AA1 {α : Type} [DecidableEq α] {a b : List α} (h : a.length ≠ b.length) : decide (a = b) = false := by
 simp only [decide_eq_false_iff_not]; intro e; exact h (by rw [e])
theorem Vg (a b : List Int) (hb : a.length < 1000000) : Di a b = some (decide (a = b)) := by
 unfold Di
 rw [Kq]
 split
 .exact Z2 (by omega) hb fun i hi => by unfold Ib; exact Z3 (by omega) hb i hi
 rw [AA1 (by omega)]
theorem Yl {a b : AU} : a = b ↔ a.frm = b.frm /\ a.to = b.to /\ a.fin = b.fin /\ a.steps = b.steps /\ a.needs = b.needs /\ a.guards = b.guards /\ a.zone = b.zone /\ a.holds = b.holds /\ a.bare = b.bare := by
 cases a; cases b; simp
theorem Ym {r : AU} (hl : r.steps.length < 1000000) {step : Int × List Int -> Option ((Int × List Int) ⊕ List Int)}
  (h : ∀ (i : Int) (o : List Int), step (i, o) = bif decide (i < (r.steps.length : Int)) then (An r.steps i).bind fun y => (A7 o [y.elem]).bind fun z => some (.inl (Ae (i + 1), z)) else some (.inr o)) : AP step (0, []) = some (r.steps.map (·.elem)) := by
 obtain ⟨b, h1, h2⟩ := B9 (l := r.steps) (step := step) (Post := fun b => b = r.steps.map (·.elem)) (fun i o => o = (r.steps.take i).map (·.elem)) (c := [])
  (fun c hc => ⟨c, by rw [h]; simp [Bw], by rw [hc, List.take_length]⟩)
  (fun i a c ha hc => by
   have := BY ha
   have hlen : c.length <= i := by rw [hc]; simp; omega
   refine .inr ⟨c ++ [a.elem], ?_, by rw [hc, DF ha]⟩
   rw [h]
   simp only [BS ha, cond_true, Af, ha, Option.bind_some]
   rw [A2 (by simp; omega)]
   simp only [Option.bind_some, AT (show i < 1000000000 by omega)])
  (by simp)
 rw [h1, h2]
theorem L7 (r : AU) (hl : r.steps.length < 1000000) : D1 r = some (r.steps.map (·.elem)) := Ym hl fun _ _ => rfl
def IR (n : Int) : List Int -> List Int
 | [] => [n]
 | x :: l => if x < n then x :: IR n l else if x = n then x :: l else n :: x :: l
theorem Se (n : Int) : ∀ (l : List Int) (x : Int), x ∈ IR n l ↔ x = n \/ x ∈ l
 | [], x => by simp [IR]
 | y :: l, x => by
  unfold IR
  split
  .rw [List.mem_cons, Se n l x, List.mem_cons]
   constructor
   .rintro (h | h | h)
    .exact .inr (.inl h)
    .exact .inl h
    exact .inr (.inr h)
   rintro (h | h | h)
   .exact .inr (.inl h)
   .exact .inl h
   exact .inr (.inr h)
  split
  .rename_i h; subst h; simp
  simp
theorem Sf (n : Int) : ∀ l : List Int, (IR n l).length <= l.length + 1
 | [] => by simp [IR]
 | x :: l => by
  unfold IR
  split
  .simp; have := Sf n l; omega
  split <;> simp
theorem XZ (l : List Int) (hl : l.length < 1000000) (n : Int) : HK l n = some (IR n l) := by
 unfold HK
 have key : ∀ (r : List Int) (i : Nat), l.drop i = r -> i <= l.length -> AP (DZ l n) (i : Int) = some (l.take i ++ IR n r) := by
  intro r
  induction r with
  | nil =>
   intro i hd hi
   have : i = l.length := by have := congrArg List.length hd; simp at this; omega
   subst this
   refine B7 ?_
   have s1 : Im l 0 (l.length : Int) = some l := by simp [Im]
   have s2 : Im l (l.length : Int) (l.length : Int) = some [] := by simp [Im]
   simp only [DZ, Bw, cond_false, Option.bind_some, s1, s2, A2 (show ([] : List Int).length + l.length <= 4294967296 by simp; omega), List.nil_append, A2 (show l.length + [n].length <= 4294967296 by simp; omega), A2 (show (l ++ [n]).length + ([] : List Int).length <= 4294967296 by simp; omega), Option.map_some, IR, List.take_length, List.append_nil]
  | cons a r ih =>
   intro i hd hi
   have hlt : i < l.length := by have := congrArg List.length hd; simp at this; omega
   have ha : l[i]? = some a := by
    have : (l.drop i)[0]? = some a := by rw [hd]; rfl
    simpa using this
   have hr : l.drop (i + 1) = r := by
    have : (l.drop i).drop 1 = r := by rw [hd]; rfl
    rwa [List.drop_drop] at this
   unfold IR
   by_cases c : a < n
   .rw [if_pos c]
    rw [B2 (s' := ((i + 1 : Nat) : Int)) (by
     simp only [DZ, BS ha, cond_true, Af, ha, Option.bind_some, decide_eq_true c, AT (show i < 1000000000 by omega)]), ih (i + 1) hr (by omega)]
    rw [List.take_add_one, ha]; simp
   rw [if_neg c]
   refine B7 ?_
   by_cases c2 : a = n
   .rw [if_pos c2]
    have : l.take i ++ a :: r = l := by rw [<- hd, List.take_append_drop]
    simp only [DZ, BS ha, cond_true, Af, ha, Option.bind_some, decide_eq_false c, cond_false, beq_iff_eq.2 c2, this, Option.map_some]
   rw [if_neg c2]
   have e : (a == n) = false := beq_eq_false_iff_ne.2 c2
   have s1 : Im l 0 (i : Int) = some (l.take i) := by
    unfold Im
    rw [if_pos ⟨by omega, by omega, by omega⟩]; simp
   have s2 : Im l (i : Int) (l.length : Int) = some (l.drop i) := by
    unfold Im
    rw [if_pos ⟨by omega, by omega, by omega⟩]; simp
   simp only [DZ, BS ha, cond_true, Af, ha, Option.bind_some, decide_eq_false c, cond_false, e, s1, s2]
   rw [A2 (by simp; omega)]
   simp only [Option.bind_some, List.nil_append]
   rw [A2 (by simp; omega)]
   simp only [Option.bind_some]
   rw [A2 (by simp; omega)]
   simp only [Option.bind_some, Option.map_some, hd, List.append_assoc, List.singleton_append]
 have := key l 0 rfl (Nat.zero_le _)
 simpa using this
end Go.E
/- Plain Lean: the roads of a signal: the document's search and the program's are one. No condition. -/
namespace Go.E
open Go
def It (s to fin : Int) (st : List A1) (nd : List AM) : AU := ⟨s, to, fin, st, nd, [], [], [], false⟩
def JS (nd : List AM) (e pos : Int) : List AM := if pos = 0 then nd else nd ++ [⟨e, pos⟩]
def N9 (p : AO) (s : Int) : Nat -> List A1 -> List AM -> AE -> List Int -> List AU
 | 0, _, _, _, _ => []
 | k + 1, st, nd, x, met => if x.elem ∈ met \/ st.length = 12 then [] else if Ap p x.elem = 4 then [It s (-1) 2 (st ++ [⟨x.elem, x.fin, -1⟩]) nd] else
  (CR p x.elem x.fin).flatMap fun w => if 0 <= BD p ⟨x.elem, w.out⟩ then [It s (BD p ⟨x.elem, w.out⟩) 1 (st ++ [⟨x.elem, x.fin, w.out⟩]) (JS nd x.elem w.pos)] else match A0 p ⟨x.elem, w.out⟩ with
   | none => [It s (-1) 3 (st ++ [⟨x.elem, x.fin, w.out⟩]) (JS nd x.elem w.pos)]
   | some y => N9 p s k (st ++ [⟨x.elem, x.fin, w.out⟩]) (JS nd x.elem w.pos) y (met ++ [x.elem])
def Ig (p : AO) (s : Int) (k : Nat) (st : List A1) (nd : List AM) (x : AE) (met : List Int) (w : DM) : List AU :=
 if 0 <= BD p ⟨x.elem, w.out⟩ then [It s (BD p ⟨x.elem, w.out⟩) 1 (st ++ [⟨x.elem, x.fin, w.out⟩]) (JS nd x.elem w.pos)] else match A0 p ⟨x.elem, w.out⟩ with
  | none => [It s (-1) 3 (st ++ [⟨x.elem, x.fin, w.out⟩]) (JS nd x.elem w.pos)]
  | some y => N9 p s k (st ++ [⟨x.elem, x.fin, w.out⟩]) (JS nd x.elem w.pos) y (met ++ [x.elem])
theorem Np (p : AO) (s : Int) (k : Nat) (st : List A1) (nd : List AM) (x : AE) (met : List Int) :
  N9 p s (k + 1) st nd x met = if x.elem ∈ met \/ st.length = 12 then [] else if Ap p x.elem = 4 then [It s (-1) 2 (st ++ [⟨x.elem, x.fin, -1⟩]) nd] else (CR p x.elem x.fin).flatMap (Ig p s k st nd x met) := rfl
theorem UQ (p : AO) (s : Int) (k : Nat) (st : List A1) (nd : List AM) (x : AE) (met : List Int) (w : DM) (ih : ∀ st nd x met, (N9 p s k st nd x met).length <= 2 ^ k) : (Ig p s k st nd x met w).length <= 2 ^ k := by
 have h1 : 1 <= 2 ^ k := Nat.one_le_two_pow
 unfold Ig
 split
 .simp; omega
 split
 .simp; omega
 exact ih _ _ _ _
theorem KX {α β : Type} (f : α -> List β) (b : Nat) : ∀ l : List α, (∀ a ∈ l, (f a).length <= b) -> (l.flatMap f).length <= l.length * b
 | [], _ => by simp
 | a :: l, h => by
  have h1 := h a (by simp)
  have h2 := KX f b l fun x hx => h x (by simp [hx])
  simp only [List.flatMap_cons, List.length_append, List.length_cons, Nat.add_mul]
  omega
theorem R6 (p : AO) (s : Int) : ∀ (k : Nat) (st : List A1) (nd : List AM) (x : AE) (met : List Int), (N9 p s k st nd x met).length <= 2 ^ k
 | 0, _, _, _, _ => by simp [N9]
 | k + 1, st, nd, x, met => by
  have h1 : 1 <= 2 ^ (k + 1) := Nat.one_le_two_pow
  rw [Np]
  split
  .simp
  split
  .simp; omega
  have h2 := KX (Ig p s k st nd x met) (2 ^ k) (CR p x.elem x.fin) fun w _ => UQ p s k st nd x met w (R6 p s k)
  have h3 := L9 p x.elem x.fin
  have h4 : (CR p x.elem x.fin).length * 2 ^ k <= 2 * 2 ^ k := Nat.mul_le_mul_right _ h3
  rw [Nat.pow_succ]; omega
theorem J8 (l : List Int) (hl : l.length < 1000000) (x : Int) : C1 l x = some (decide (x ∈ l)) := by
 unfold C1
 obtain ⟨b, h1, h2⟩ := Bm (l := l) (step := E2 l x) (Post := fun b => b = decide (x ∈ l)) (fun _ y => y ≠ x) (fun good => ⟨false, by simp [E2], by
   symm; rw [decide_eq_false_iff_not]; intro hm
   obtain ⟨i, hi⟩ := List.getElem?_of_mem hm
   exact good i x hi rfl⟩) (fun i a ha _ => by
   have := BY ha
   by_cases e : a = x
   .exact .inl ⟨true, by simp only [E2, BS ha, cond_true, Af, ha, Option.bind_some, e, beq_self_eq_true], by symm; rw [decide_eq_true_iff]; subst e; exact List.mem_of_getElem? ha⟩
   have : (a == x) = false := beq_eq_false_iff_ne.2 e
   exact .inr ⟨by simp only [E2, BS ha, cond_true, Af, ha, Option.bind_some, this, cond_false, AT (show i < 1000000000 by omega)], e⟩)
 rw [h1, h2]
theorem PV (r : AU) (s : A1) (pos fin to : Int) (h1 : r.steps.length <= 100) (h2 : r.needs.length <= 100) : E6 r s pos fin to = some (It r.frm to fin (r.steps ++ [s]) (JS r.needs s.elem pos)) := by
 unfold E6
 rw [A2 (by simp; omega)]
 simp only [Option.bind_some, List.nil_append]
 rw [A2 (by simp; omega)]
 simp only [Option.bind_some]
 rw [A2 (by simp; omega)]
 simp only [Option.bind_some, List.nil_append, Kq]
 unfold JS It
 by_cases e : pos = 0
 .simp [e]
 simp only [if_neg e]
 rw [A2 (by simp; omega)]
 simp
theorem UR (nd : List AM) (e pos : Int) : (JS nd e pos).length <= nd.length + 1 := by
 unfold JS; split <;> simp
noncomputable def ZQ (m : Nat) : AO × AU × AE × List Int -> Option (List AU) := Ot (fun rc a => GA rc a.1 a.2.1 a.2.2.1 a.2.2.2) m
theorem ZR {p : AO} (hf : FK p) (s : Int) : ∀ (k m : Nat) (to fin : Int) (st : List A1) (nd : List AM) (x : AE) (met : List Int), k <= m -> st.length + k = 13 -> nd.length <= st.length -> met.length <= st.length + 1 -> 1 <= k ->
  ZQ m (p, (⟨s, to, fin, st, nd, [], [], [], false⟩ : AU), x, met) = some (N9 p s k st nd x met)
 | 0, _, _, _, _, _, _, _, _, _, _, _, h => by omega
 | k + 1, 0, _, _, _, _, _, _, h, _, _, _, _ => by omega
 | k + 1, m + 1, to, fin, st, nd, x, met, hkm, hst, hnd, hmet, _ => by
  have hpow : 2 ^ k <= 2 ^ 12 := Nat.pow_le_pow_right (by decide) (by omega)
  show GA (ZQ m) p ⟨s, to, fin, st, nd, [], [], [], false⟩ x met = _
  unfold GA
  rw [J8 met (by omega) x.elem, Np]
  simp only [Option.bind_some]
  by_cases hm : x.elem ∈ met
  .simp [hm]
  simp only [hm, decide_false, cond_false, false_or, Option.bind_some]
  by_cases hl : st.length = 12
  .have : (((st.length : Nat) : Int) == 12) = true := by rw [beq_iff_eq]; omega
   simp only [this, cond_true, if_pos hl]
  have : (((st.length : Nat) : Int) == 12) = false := by rw [beq_eq_false_iff_ne]; omega
  simp only [this, cond_false, if_neg hl]
  rw [A2 (by simp; omega)]
  simp only [Option.bind_some, List.nil_append]
  rw [A2 (by simp; omega)]
  simp only [Option.bind_some, Lg, Eh]
  by_cases hk : Ap p x.elem = 4
  .simp only [if_pos hk, PV (⟨s, to, fin, st, nd, [], [], [], false⟩ : AU) ⟨x.elem, x.fin, -1⟩ 0 2 (-1) (by simp only; omega) (by simp only; omega), Option.bind_some, JS, if_true]
  simp only [if_neg hk, RK, Option.bind_some]
  have hol := L9 p x.elem x.fin
  have wl : ∀ w, (Ig p s k st nd x met w).length <= 2 ^ k := fun w => UQ p s k st nd x met w (R6 p s k)
  obtain ⟨b, h1, h2⟩ := B9 (l := CR p x.elem x.fin) (step := GZ p ⟨s, to, fin, st, nd, [], [], [], false⟩ x (ZQ m) (met ++ [x.elem]) (CR p x.elem x.fin))
   (Post := fun b => b = (CR p x.elem x.fin).flatMap (Ig p s k st nd x met)) (fun i o => o = ((CR p x.elem x.fin).take i).flatMap (Ig p s k st nd x met)) (c := [])
   (fun o ho => ⟨o, by simp [GZ], by rw [ho, List.take_length]⟩)
   (fun i w o hw ho => by
    have hi := BY hw
    have hol2 : o.length <= 2 * 2 ^ k := by
     rw [ho]
     have h5 := KX (Ig p s k st nd x met) (2 ^ k) ((CR p x.elem x.fin).take i) fun w _ => wl w
     have h6 : ((CR p x.elem x.fin).take i).length * 2 ^ k <= 2 * 2 ^ k := Nat.mul_le_mul_right _ (by rw [List.length_take]; omega)
     omega
    have hw2 := wl w
    refine .inr ⟨o ++ Ig p s k st nd x met w, ?_, by rw [ho, List.take_add_one, hw]; simp⟩
    have hb : o.length + (Ig p s k st nd x met w).length <= 4294967296 := by omega
    simp only [GZ, BS hw, cond_true, Af, hw, Option.bind_some, IS p (show p.signals.length < 1000000 by have := hf.signals; omega)]
    unfold Ig at hb ⊢
    by_cases hr : 0 <= BD p ⟨x.elem, w.out⟩
    .rw [if_pos hr] at hb ⊢
     simp only [hr, decide_true, cond_true, PV (⟨s, to, fin, st, nd, [], [], [], false⟩ : AU) ⟨x.elem, x.fin, w.out⟩ w.pos 1 (BD p ⟨x.elem, w.out⟩) (by simp only; omega) (by simp only; omega), Option.bind_some]
     rw [A2 hb]
     simp only [Option.bind_some, AT (show i < 1000000000 by omega)]
    rw [if_neg hr] at hb ⊢
    simp only [hr, decide_false, cond_false, Cv p (by have := hf.joins; omega), Option.bind_some]
    cases hnx : A0 p ⟨x.elem, w.out⟩ with
    | none =>
     rw [hnx] at hb
     simp only [Option.isSome_none, Bool.not_false, cond_true, PV (⟨s, to, fin, st, nd, [], [], [], false⟩ : AU) ⟨x.elem, x.fin, w.out⟩ w.pos 3 (-1) (by simp only; omega) (by simp only; omega), Option.bind_some]
     rw [A2 hb]
     simp only [Option.bind_some, AT (show i < 1000000000 by omega)]
    | some y =>
     rw [hnx] at hb
     simp only at hb
     have hal := UR nd x.elem w.pos
     have hrec := ZR hf s k m (-1) 0 (st ++ [⟨x.elem, x.fin, w.out⟩]) (JS nd x.elem w.pos) y (met ++ [x.elem]) (by omega) (by simp; omega) (by simp; omega) (by simp; omega) (by omega)
     simp only [Option.isSome_some, Option.getD_some, Bool.not_true, cond_false, PV (⟨s, to, fin, st, nd, [], [], [], false⟩ : AU) ⟨x.elem, x.fin, w.out⟩ w.pos 0 (-1) (by simp only; omega) (by simp only; omega), Option.bind_some]
     unfold It
     rw [hrec]
     simp only [Option.bind_some]
     rw [A2 hb]
     simp only [Option.bind_some, AT (show i < 1000000000 by omega)])
   (by simp)
  rw [show (0 : Int) = ((0 : Nat) : Int) from rfl] at *
  rw [h1, h2]
def Gz (p : AO) (s : Int) : List AU := match An p.signals s with
 | none => []
 | some a => match A0 p a.at_ with
  | none => []
  | some y => N9 p s 13 [] [] y [a.at_.elem]
theorem ABg (p : AO) (s : Int) : Mr p s = some (match An p.signals s with | none => (⟨0, 0⟩, false) | some a => (a.at_, true)) := by
 unfold Mr
 by_cases h1 : s < 0
 .simp [h1, FJ (.inl h1)]
 by_cases h2 : (p.signals.length : Int) <= s
 .simp [h1, h2, FJ (.inr h2)]
 obtain ⟨a, ha⟩ := Oz (l := p.signals) (n := s) (by omega) (by omega)
 simp [h1, h2, ha]
theorem ZS {p : AO} (hf : FK p) (s : Int) : La p s = some (Gz p s) := by
 unfold La Gz
 rw [ABg]
 cases An p.signals s with
 | none => rfl
 | some a =>
  simp only [Option.bind_some, Bool.not_true, cond_false, Cv p (by have := hf.joins; omega)]
  cases A0 p a.at_ with
  | none => rfl
  | some y =>
   have := ZR hf s 13 1000 0 0 [] [] y [a.at_.elem] (by omega) rfl (by simp) (by simp) (by omega)
   simp only [Option.isSome_some, Option.getD_some, Bool.not_true, cond_false]
   show (ZQ 1000 _).bind _ = _
   rw [this]; rfl
end Go.E
/- Plain Lean: the program's search for roads gives what the document's does. No condition. -/
namespace Go.E
open Go
section
variable {p : AO} {n : CX}
theorem Z4 {α : Type} (l : List α) (x : α) (hl : l.length < 1000000) : Ae (((l ++ [x]).length : Int) - 1) = (l.length : Int) := by
 have : (((l ++ [x]).length : Int) - 1) = (l.length : Int) := by simp
 rw [this, CL] <;> omega
theorem AA2 {α : Type} {l : List α} {m : Nat} (x : α) (h : l.length = m) : An (l ++ [x]) (m : Int) = some x := by
 rw [Af]; subst h; simp
theorem Z5 {α : Type} {l : List α} (h : l ≠ []) (a b : Int) : Hx l a b = Im l a b := by
 cases l with
 | nil => exact absurd rfl h
 | cons x l => rfl
theorem AA3 {α : Type} {l : List α} {m : Nat} (x : α) (h : l.length = m) : Hx (l ++ [x]) 0 (m : Int) = some l := by
 subst h
 rw [Z5 (by simp)]
 unfold Im
 rw [if_pos ⟨by omega, by omega, by simp; omega⟩]; simp
end
end Go.E
/- Plain Lean: whether something is a road: the program's answer and the document's are one. No condition. -/
namespace Go.E
open Go
theorem JP {α : Type} {l : List α} {f : α -> Bool} (hl : l.length < 1000000) {step : Int -> Option (Int ⊕ Int)}
  (h0 : step (l.length : Int) = some (.inr (-1))) (h : ∀ (i : Nat) a, l[i]? = some a -> step (i : Int) = if f a = true then some (.inr (i : Int)) else some (.inl ((i + 1 : Nat) : Int))) :
  ∃ t, AP step 0 = some t /\ ((t = -1 /\ l.find? f = none) \/ ∃ a, 0 <= t /\ l.find? f = some a /\ An l t = some a) := by
 have key : ∀ (r : List α) (i : Nat), l.drop i = r -> i <= l.length -> ∃ t, AP step (i : Int) = some t /\ ((t = -1 /\ r.find? f = none) \/ ∃ a, 0 <= t /\ r.find? f = some a /\ An l t = some a) := by
  intro r
  induction r with
  | nil =>
   intro i hd hi
   have : i = l.length := by have := congrArg List.length hd; simp at this; omega
   subst this
   exact ⟨-1, B7 h0, .inl ⟨rfl, rfl⟩⟩
  | cons a r ih =>
   intro i hd hi
   have hlt : i < l.length := by have := congrArg List.length hd; simp at this; omega
   have ha : l[i]? = some a := by
    have : (l.drop i)[0]? = some a := by rw [hd]; rfl
    simpa using this
   have hr : l.drop (i + 1) = r := by
    have : (l.drop i).drop 1 = r := by rw [hd]; rfl
    rwa [List.drop_drop] at this
   by_cases c : f a = true
   .exact ⟨i, B7 (by rw [h i a ha, if_pos c]), .inr ⟨a, by omega, by simp [c], by rw [Af, ha]⟩⟩
   obtain ⟨t, h1, h2⟩ := ih (i + 1) hr (by omega)
   refine ⟨t, by rw [B2 (by rw [h i a ha, if_neg c]), h1], ?_⟩
   simpa [List.find?_cons, c] using h2
 exact key l 0 rfl (Nat.zero_le _)
def Yn (l : List DM) (o : Int) : Option DM := l.find? fun w => w.out == o
def Do (p : AO) (a : Int) : Option AE -> List A1 -> List AM -> List A1 -> Option (List AM)
 | _, _, nd, [] => some nd
 | none, _, _, _ :: _ => none
 | some x, pv, nd, s :: r => if s.elem ≠ x.elem \/ s.in_ ≠ x.fin \/ s.elem = a \/ s.elem ∈ pv.map (·.elem) then none else if Ap p s.elem = 4 then (if r = [] /\ s.out = -1 then some nd else none) else match Yn (CR p s.elem s.in_) s.out with
  | none => none
  | some w => if r ≠ [] /\ 0 <= BD p ⟨s.elem, s.out⟩ then none else Do p a (A0 p ⟨s.elem, s.out⟩) (pv ++ [s]) (JS nd s.elem w.pos) r
def Nq (p : AO) (fin to : Int) (l : A1) : Bool :=
 if Ap p l.elem = 4 then decide (fin = 2 /\ to = -1) else if 0 <= BD p ⟨l.elem, l.out⟩ then decide (fin = 1 /\ to = BD p ⟨l.elem, l.out⟩) else (A0 p ⟨l.elem, l.out⟩).isNone && decide (fin = 3 /\ to = -1)
def Vh (p : AO) (r : AU) : Bool := match An p.signals r.frm with
 | none => false
 | some sg => if r.steps.length < 1 \/ 12 < r.steps.length then false else match Do p sg.at_.elem (A0 p sg.at_) [] [] r.steps with
  | none => false
  | some nd => match r.steps.getLast? with
   | none => false
   | some l => Nq p r.fin r.to l && decide (r.needs = nd)
theorem RN {p : AO} {a : Int} : ∀ {r : List A1} {x : Option AE} {pv : List A1} {nd nd' : List AM}, Do p a x pv nd r = some nd' -> nd'.length <= nd.length + r.length
 | [], x, pv, nd, nd', h => by
  have : nd = nd' := by cases x <;> simpa [Do] using h
  subst this; simp
 | s :: r, none, pv, nd, nd', h => by simp [Do] at h
 | s :: r, some x, pv, nd, nd', h => by
  unfold Do at h
  split at h
  .cases h
  split at h
  .split at h
   .cases h; simp
   cases h
  split at h
  .cases h
  split at h
  .cases h
  have h1 := RN h
  rename_i w _ _
  have h2 := UR nd s.elem w.pos
  simp only [List.length_cons]; omega
section
variable {p : AO} {n : CX}
end
end Go.E
/- Plain Lean: whether something is a road, as the document says; the roads of a signal are roads, and none is told twice. No condition. -/
namespace Go.E
open Go
theorem Sg (p : AO) (e i : Int) : (CR p e i).Pairwise (fun a b => a.out ≠ b.out) := by
 unfold CR
 repeat' split
 all_goals simp
theorem Si {p : AO} {e i : Int} {w : DM} (h : w ∈ CR p e i) : 0 <= w.out /\ w.out < CW (Ap p e) /\ 0 <= i /\ i < CW (Ap p e) /\ Ap p e ≠ 4 /\ (w.pos ≠ 0 -> Ap p e = 2 /\ (w.pos = 1 \/ w.pos = 2)) := by
 unfold CR at h
 cases hh : DJ p ⟨e, i⟩ with
 | false => rw [hh] at h; simp at h
 | true =>
  obtain ⟨h1, h2, h3⟩ := FM hh
  simp only at h1 h2 h3
  rw [hh] at h
  simp only [if_true] at h
  by_cases k1 : Ap p e = 1
  .rw [k1] at h h3 ⊢
   simp [CW] at h h3 ⊢
   subst h
   simp; omega
  by_cases k3 : Ap p e = 3
  .rw [k3] at h h3 ⊢
   simp [CW] at h h3 ⊢
   subst h
   simp
   split
   .omega
   split
   .omega
   split <;> omega
  by_cases k2 : Ap p e = 2
  .rw [k2] at h h3 ⊢
   simp [CW] at h h3 ⊢
   by_cases i0 : i = 0
   .subst i0
    simp at h
    rcases h with rfl | rfl <;> simp
   rw [if_neg i0] at h
   simp at h
   subst h
   simp; omega
  rw [if_neg k1, if_neg k3, if_neg k2] at h; simp at h
theorem US : ∀ {l : List DM} {w : DM}, l.Pairwise (fun a b => a.out ≠ b.out) -> w ∈ l -> Yn l w.out = some w
 | a :: l, w, hp, hm => by
  rw [List.pairwise_cons] at hp
  unfold Yn
  rw [List.find?_cons]
  rcases List.mem_cons.1 hm with rfl | hm
  .simp
  have := hp.1 w hm
  have e : (a.out == w.out) = false := beq_eq_false_iff_ne.2 this
  simp only [e]
  exact US hp.2 hm
section
variable {p : AO} {n : CX}
structure OnR (p : AO) (a s : Int) (x : AE) (st : List A1) (nd : List AM) (r : AU) (t : List A1) : Prop where
 frm : r.frm = s
 guards : r.guards = []
 zone : r.zone = []
 holds : r.holds = []
 bare : r.bare = false
 steps : r.steps = st ++ t
 ne : t ≠ []
 len : r.steps.length <= 12
 all : Do p a (some x) st nd t = some r.needs
 tail : ∀ l, t.getLast? = some l -> Nq p r.fin r.to l = true
theorem QI (s a : Int) : ∀ (k : Nat) (st : List A1) (nd : List AM) (x : AE) (r : AU), st.length + k = 13 -> r ∈ N9 p s k st nd x (a :: st.map (·.elem)) -> ∃ t, OnR p a s x st nd r t /\ ∃ u t', t = u :: t' /\ u.elem = x.elem /\ u.in_ = x.fin
 | 0, st, nd, x, r, hk, hr => by simp [N9] at hr
 | k + 1, st, nd, x, r, hk, hr => by
  rw [Np] at hr
  by_cases hm : x.elem ∈ a :: st.map (·.elem) \/ st.length = 12
  .rw [if_pos hm] at hr; simp at hr
  rw [if_neg hm] at hr
  have hm1 : x.elem ∉ a :: st.map (·.elem) := fun h => hm (.inl h)
  have hm2 : ¬ (x.elem ≠ x.elem \/ x.fin ≠ x.fin \/ x.elem = a \/ x.elem ∈ st.map (·.elem)) := by
   rintro (h1 | h1 | h1 | h1)
   .exact h1 rfl
   .exact h1 rfl
   .exact hm1 (by rw [h1]; simp)
   exact hm1 (List.mem_cons_of_mem _ h1)
  have hlen : st.length < 12 := by
   have : st.length ≠ 12 := fun h => hm (.inr h)
   omega
  by_cases k4 : Ap p x.elem = 4
  .rw [if_pos k4] at hr
   simp at hr
   subst hr
   refine ⟨[⟨x.elem, x.fin, -1⟩], ⟨rfl, rfl, rfl, rfl, rfl, rfl, by simp, by simp [It]; omega, ?_, ?_⟩, _, _, rfl, rfl, rfl⟩
   .simp only [Do, if_neg hm2, if_pos k4, It, true_and, if_true]
   intro l hl
   simp at hl
   subst hl
   simp [Nq, k4, It]
  rw [if_neg k4] at hr
  obtain ⟨w, hw, hr⟩ := List.mem_flatMap.1 hr
  have hway := US (Sg p x.elem x.fin) hw
  unfold Ig at hr
  by_cases hrd : 0 <= BD p ⟨x.elem, w.out⟩
  .rw [if_pos hrd] at hr
   simp at hr
   subst hr
   refine ⟨[⟨x.elem, x.fin, w.out⟩], ⟨rfl, rfl, rfl, rfl, rfl, rfl, by simp, by simp [It]; omega, ?_, ?_⟩, _, _, rfl, rfl, rfl⟩
   .unfold Do; rw [if_neg hm2, if_neg k4, hway]; simp [Do, It]
   intro l hl
   simp at hl
   subst hl
   simp [Nq, k4, It, hrd]
  rw [if_neg hrd] at hr
  cases hnx : A0 p ⟨x.elem, w.out⟩ with
  | none =>
   rw [hnx] at hr
   simp at hr
   subst hr
   refine ⟨[⟨x.elem, x.fin, w.out⟩], ⟨rfl, rfl, rfl, rfl, rfl, rfl, by simp, by simp [It]; omega, ?_, ?_⟩, _, _, rfl, rfl, rfl⟩
   .unfold Do; rw [if_neg hm2, if_neg k4, hway]; simp [Do, It]
   intro l hl
   simp at hl
   subst hl
   simp [Nq, k4, It, hrd, hnx]
  | some y =>
   rw [hnx] at hr
   have hmm : a :: st.map (·.elem) ++ [x.elem] = a :: (st ++ [(⟨x.elem, x.fin, w.out⟩ : A1)]).map (·.elem) := by simp
   simp only at hr
   rw [hmm] at hr
   obtain ⟨t, ht, u, t', htu, -, -⟩ := QI s a k (st ++ [⟨x.elem, x.fin, w.out⟩]) (JS nd x.elem w.pos) y r (by simp; omega) hr
   refine ⟨⟨x.elem, x.fin, w.out⟩ :: t, ⟨ht.frm, ht.guards, ht.zone, ht.holds, ht.bare, by rw [ht.steps]; simp, by simp, ht.len, ?_, ?_⟩, _, _, rfl, rfl, rfl⟩
   .unfold Do
    rw [if_neg hm2, if_neg k4, hway]
    dsimp only
    rw [if_neg (fun h => hrd h.2), hnx]
    exact ht.all
   intro l hl
   refine ht.tail l ?_
   rw [htu] at hl ⊢
   rwa [List.getLast?_cons_cons] at hl
theorem FL {s : Int} {r : AU} (h : r ∈ Gz p s) : Vh p r = true /\ r.frm = s /\ r.guards = [] /\ r.zone = [] /\ r.holds = [] /\ r.bare = false /\ r.steps.length <= 12 /\ 1 <= r.steps.length /\ r.needs.length <= 12 := by
 unfold Gz at h
 cases hi : An p.signals s with
 | none => rw [hi] at h; simp at h
 | some sg =>
  rw [hi] at h
  simp only at h
  cases hx : A0 p sg.at_ with
  | none => rw [hx] at h; simp at h
  | some y =>
   rw [hx] at h
   simp only at h
   obtain ⟨t, ht, -⟩ := QI s sg.at_.elem 13 [] [] y r rfl (by simpa using h)
   have hst : r.steps = t := by rw [ht.steps]; rfl
   have hlen : 1 <= r.steps.length := by
    rw [hst]
    exact List.length_pos_iff.2 ht.ne
   have hl2 := ht.len
   have hnl := RN ht.all
   rw [<- hst] at hnl
   simp only [List.length_nil] at hnl
   refine ⟨?_, ht.frm, ht.guards, ht.zone, ht.holds, ht.bare, ht.len, hlen, by omega⟩
   unfold Vh
   rw [ht.frm, hi]
   simp only
   rw [if_neg (by omega), hx, hst, ht.all]
   obtain ⟨l, hl⟩ : ∃ l, t.getLast? = some l := by
    rw [List.getLast?_eq_getElem?]
    rw [hst] at hlen
    exact ⟨_, List.getElem?_eq_getElem (by omega)⟩
   simp only [hl, ht.tail l hl, decide_true, Bool.and_true]
theorem Sj (s a : Int) (k : Nat) (st : List A1) (nd : List AM) (x : AE) (w : DM) (r : AU) (hk : st.length + (k + 1) = 13) (h : r ∈ Ig p s k st nd x (a :: st.map (·.elem)) w) : r.steps[st.length]? = some ⟨x.elem, x.fin, w.out⟩ := by
 unfold Ig at h
 split at h
 .simp at h; subst h; simp [It]
 split at h
 .simp at h; subst h; simp [It]
 rename_i y hy
 have hmm : a :: st.map (·.elem) ++ [x.elem] = a :: (st ++ [(⟨x.elem, x.fin, w.out⟩ : A1)]).map (·.elem) := by simp
 rw [hmm] at h
 obtain ⟨t, ht, -⟩ := QI s a k _ _ y r (by simp; omega) h
 rw [ht.steps]; simp
theorem Sk (s a : Int) : ∀ (k : Nat) (st : List A1) (nd : List AM) (x : AE), st.length + k = 13 -> (N9 p s k st nd x (a :: st.map (·.elem))).Nodup
 | 0, st, nd, x, hk => by simp [N9]
 | k + 1, st, nd, x, hk => by
  rw [Np]
  split
  .simp
  split
  .simp
  unfold List.Nodup; rw [List.pairwise_flatMap]
  refine ⟨fun w hw => ?_, ?_⟩
  .unfold Ig
   split
   .simp
   split
   .simp
   rename_i y hy
   have hmm : a :: st.map (·.elem) ++ [x.elem] = a :: (st ++ [(⟨x.elem, x.fin, w.out⟩ : A1)]).map (·.elem) := by simp
   rw [hmm]
   exact Sk s a k _ _ y (by simp; omega)
  refine (Sg p x.elem x.fin).imp fun {w v} hwv => ?_
  rintro r hr1 r2 hr2 rfl
  have h1 := Sj s a k st nd x w r (by omega) hr1
  have h2 := Sj s a k st nd x v r (by omega) hr2
  rw [h1] at h2
  simp at h2
  exact hwv h2
theorem Xg (s : Int) : (Gz p s).Nodup := by
 unfold Gz
 split
 .simp
 split
 .simp
 rename_i sg _ _ y _
 have := Sk (p := p) s sg.at_.elem 13 [] [] y rfl
 simpa using this
end
end Go.E
/- Plain Lean: RoadOfs, RoadAlls, RoadIsOne, RoadTurned and RoadEach answer true, for every argument. No condition. -/
namespace Go.E
open Go
theorem u8w {n : Int} (h : (Lit.int .u8 n).wf = true) : 0 <= n /\ n <= 255 /\ Ae n = n := by
 have : 0 <= n /\ n <= 255 := by simpa [Lit.wf, IntKind.min, IntKind.max, IntKind.signed, IntKind.bits] using h
 exact ⟨this.1, this.2, by rw [CL] <;> omega⟩
section
variable {p : AO} {n : CX}
theorem Z6 (s : Int) : (Gz p s).length <= 2 ^ 13 := by
 unfold Gz
 split
 .simp
 split
 .simp
 exact R6 p s 13 _ _ _ _
def Ih (p : AO) (i : Nat) : List AU := (List.range i).flatMap fun (s : Nat) => Gz p (s : Int)
def Lh (p : AO) : List AU := Ih p p.signals.length
theorem O1 (i : Nat) : Ih p (i + 1) = Ih p i ++ Gz p (i : Int) := by
 unfold Ih
 rw [List.range_succ, List.flatMap_append]; simp
theorem Yo {i : Nat} {r : AU} (h : r ∈ Ih p i) : ∃ s : Int, r ∈ Gz p s := by
 obtain ⟨s, _, hs⟩ := List.mem_flatMap.1 h
 exact ⟨_, hs⟩
theorem Sl {i : Nat} : ∀ {j : Nat}, i <= j -> (Ih p i).length <= (Ih p j).length
  | 0, h => by have : i = 0 := by omega
               subst this; exact Nat.le_refl _
  | j + 1, h => by
    by_cases e : i = j + 1
    . subst e; exact Nat.le_refl _
    have := Sl (i := i) (j := j) (by omega)
    rw [O1, List.length_append]; omega
def Ej (p : AO) : List AU × Int := if 64 < (Lh p).length then ([], 3) else (Lh p, 0)
theorem WX (hv : Ce p) : KR p = some (Ej p) := by
 have hs := hv.ns
 unfold KR
 obtain ⟨b, h1, h2⟩ := B9 (l := p.signals) (step := Fg p) (Post := fun b => b = Ej p) (fun i o => o = Ih p i /\ o.length <= 64) (c := [])
  (fun o ho => by
   refine ⟨Ej p, ?_, rfl⟩
   unfold Ej Lh
   rw [<- ho.1, if_neg (by omega)]
   simp [Fg])
  (fun i a o ha ho => by
   have hi := BY ha
   have h2 := Z6 (p := p) (i : Int)
   have hb : o.length + (Gz p (i : Int)).length <= 4294967296 := by have := ho.2; omega
   have hlen : (o ++ Gz p (i : Int)) = Ih p (i + 1) := by rw [O1, ho.1]
   by_cases c : 64 < (o ++ Gz p (i : Int)).length
   .refine .inl ⟨([], 3), ?_, ?_⟩
    .have d : decide (64 < ((o ++ Gz p (i : Int)).length : Int)) = true := by simp only [decide_eq_true_eq]; omega
     simp only [Fg, BS ha, cond_true, ZS hv.few, Option.bind_some, A2 hb, d]
    unfold Ej Lh
    have := Sl (p := p) (show i + 1 <= p.signals.length by omega)
    rw [hlen] at c
    rw [if_pos (by omega)]
   refine .inr ⟨o ++ Gz p (i : Int), ?_, hlen, by omega⟩
   have d : decide (64 < ((o ++ Gz p (i : Int)).length : Int)) = false := by simp only [decide_eq_false_iff_not]; omega
   simp only [Fg, BS ha, cond_true, ZS hv.few, Option.bind_some, A2 hb, d, cond_false, AT (show i < 1000000000 by omega)])
  ⟨by simp [Ih], by simp⟩
 rw [h1, h2]
theorem QE {r : AU} (h : r ∈ (Ej p).1) : ∃ s : Int, r ∈ Gz p s := by
 unfold Ej at h
 split at h
 .simp at h
 exact Yo h
end
end Go.E
/- Plain Lean: RoadRuns answers true, for every argument. No condition. -/
namespace Go.E
open Go
def Yp (pos : List Int) (e : Int) : Int := (An pos e).getD 0
section
variable {p : AO} {n : CX}
theorem WY (p : AO) (e i : Int) : CR p e i = [] \/ (∃ w, CR p e i = [w]) \/ CR p e i = [⟨1, 1⟩, ⟨2, 2⟩] := by
 unfold CR
 split
 .split
  .exact .inr (.inl ⟨_, rfl⟩)
  split
  .exact .inr (.inl ⟨_, rfl⟩)
  split
  .split
   .exact .inr (.inr rfl)
   exact .inr (.inl ⟨_, rfl⟩)
  exact .inl rfl
 exact .inl rfl
theorem WZ {e i x : Int} {w : DM} (hw : w ∈ CR p e i) (hx : w.pos = 0 \/ w.pos = x) : BX p e i x = some w.out := by
 unfold BX
 rcases WY p e i with h | ⟨v, h⟩ | h
 .rw [h] at hw; simp at hw
 .rw [h] at hw ⊢
  simp at hw
  subst hw
  simp only [Ck, if_pos hx]
 rw [h] at hw ⊢
 simp at hw
 rcases hw with rfl | rfl
 .simp only [Ck, if_pos hx]
 have : x = 2 := by simp at hx; omega
 subst this
 simp [Ck]
theorem O2 {e i x o : Int} (h : BX p e i x = some o) : ∃ w ∈ CR p e i, w.out = o /\ (w.pos = 0 \/ w.pos = x) := by
 unfold BX at h
 have key : ∀ l : List DM, Ck l x = some o -> ∃ w ∈ l, w.out = o /\ (w.pos = 0 \/ w.pos = x) := by
  intro l
  induction l with
  | nil => intro h; simp [Ck] at h
  | cons w l ih =>
   intro h
   unfold Ck at h
   split at h
   .rename_i hx
    exact ⟨w, by simp, by simpa using h, hx⟩
   obtain ⟨v, hv, h1⟩ := ih h
   exact ⟨v, by simp [hv], h1⟩
 exact key _ h
theorem Wa {e : Int} (h : Ap p e ≠ 0) : 0 <= e /\ e < p.elems.length := by
 unfold Ap at h
 cases hi : An p.elems e with
 | none => rw [hi] at h; simp at h
 | some a => exact Rs hi
theorem MB {r : AU} (h : Vh p r = true) : ∃ sg nd l, An p.signals r.frm = some sg /\ 1 <= r.steps.length /\ r.steps.length <= 12 /\ Do p sg.at_.elem (A0 p sg.at_) [] [] r.steps = some nd /\ r.steps.getLast? = some l /\ Nq p r.fin r.to l = true /\ r.needs = nd := by
 unfold Vh at h
 cases hi : An p.signals r.frm with
 | none => rw [hi] at h; cases h
 | some sg =>
  rw [hi] at h
  simp only at h
  split at h
  .cases h
  cases hs : Do p sg.at_.elem (A0 p sg.at_) [] [] r.steps with
  | none => rw [hs] at h; cases h
  | some nd =>
   rw [hs] at h
   cases hl : r.steps.getLast? with
   | none => rw [hl] at h; cases h
   | some l =>
    rw [hl] at h
    simp only [Bool.and_eq_true, decide_eq_true_eq] at h
    exact ⟨sg, nd, l, rfl, by omega, by omega, hs, rfl, h.1, h.2⟩
end
end Go.E
/- Plain Lean: RoadRuns answers true, for every argument. No condition. -/
namespace Go.E
open Go
section
variable {p : AO} {n : CX}
end
end Go.E
/- Plain Lean: RoadWhole answers true, for every argument. No condition. -/
namespace Go.E
open Go
section
variable {p : AO} {n : CX}
end
end Go.E
/- Reach hands the keys of a map out in whatever order and sorts them: what it answers has no order in it; the example that the laws of sides AF at. No condition. -/
namespace Go.E
open Go Go.Proofs
theorem Pk {a b : List Int} (h : a.Perm b) : En a = En b :=
 List.Perm.eq_of_pairwise (le := fun a b : Int => a <= b) (fun a b _ _ h1 h2 => Int.le_antisymm h1 h2) (JM a) (JM b) ((Dc a).trans (h.trans (Dc b).symm))
theorem JN {α : Type} : ∀ {l : List α} {j : Nat} {y : α}, l[j]? = some y -> (y :: l.eraseIdx j).Perm l
 | x :: l, 0, y, h => by
  rw [List.getElem?_cons_zero] at h
  cases h
  rw [List.eraseIdx_cons_zero]
 | x :: l, j + 1, y, h => by
  rw [List.getElem?_cons_succ] at h
  rw [List.eraseIdx_cons_succ]
  exact (List.Perm.swap x y _).trans ((JN h).cons x)
set_option maxRecDepth 100000
end Go.E
/- Plain Lean: the ports on the sides of a road, and what is its own: the program's answer and the document's are one (laws SidePorts, SideOwns). No condition. -/
namespace Go.E
open Go
theorem Ys {l : List A1} {e : Int} : decide (e ∈ l.map (·.elem)) = (l.find? fun s => s.elem == e).isSome := by
 induction l with
 | nil => simp
 | cons a l ih =>
  rw [List.find?_cons]
  by_cases c : a.elem = e
  .simp [c]
  have : (a.elem == e) = false := beq_eq_false_iff_ne.2 c
  rw [this]
  simp only [List.map_cons, List.mem_cons, Ne.symm c, false_or]
  exact ih
theorem AA4 (r : AU) (hl : r.steps.length < 1000000) (e : Int) : Na r e = some (decide (e ∈ r.steps.map (·.elem))) := by
 unfold Na
 obtain ⟨t, h1, h2⟩ := JP (l := r.steps) (f := fun s => s.elem == e) hl (step := IQ r e) (by simp [IQ]) (fun i a ha => by
  have := BY ha
  simp only [IQ, Ou, BS ha, cond_true, Af, ha, Option.bind_some, AT (show i < 1000000000 by omega)]
  by_cases c : a.elem = e
  .simp [c]
  have : (a.elem == e) = false := beq_eq_false_iff_ne.2 c
  simp [this])
 rw [h1, Ys]
 simp only [Option.bind_some, Option.some.injEq]
 rcases h2 with ⟨rfl, h2⟩ | ⟨a, h0, h2, _⟩
 .rw [h2]; rfl
 rw [h2]; simp [h0]
theorem Z7 (r : AU) (hl : r.steps.length < 1000000) (e : Int) : KS r e = some (decide (e ∈ r.steps.map (·.elem))) := by
 unfold KS
 simp only [L7 r hl, Option.bind_some, J8 (r.steps.map (·.elem)) (by simpa using hl)]
theorem MC {α β γ : Type} (B : Nat) {l : List α} (f : α -> List β) (hf : ∀ a, (f a).length <= 4) (hl : l.length <= 100000) {step : Int × List β -> Option (Int × List β ⊕ γ)} {fin : List β -> γ}
  (h0 : ∀ o, step ((l.length : Int), o) = some (.inr (fin o))) (h1 : ∀ (i : Nat) a o, l[i]? = some a -> o.length <= B + 400000 -> step ((i : Int), o) = some (.inl (((i + 1 : Nat) : Int), o ++ f a))) (o : List β) (ho : o.length <= B) :
  AP step ((0 : Int), o) = some (fin (o ++ l.flatMap f)) := by
 have hlen : ∀ i, ((l.take i).flatMap f).length <= i * 4 := by
  intro i
  induction i with
  | zero => simp
  | succ i ih =>
   rw [List.take_add_one, List.flatMap_append, List.length_append]
   cases h : l[i]? with
   | none => simp only [Option.toList_none, List.flatMap_nil, List.length_nil]; omega
   | some a =>
    have := hf a
    simp only [Option.toList_some, List.flatMap_cons, List.flatMap_nil, List.append_nil]
    omega
 obtain ⟨b, h2, rfl⟩ := B9 (l := l) (step := step) (Post := fun b => b = fin (o ++ l.flatMap f)) (fun i c => c = o ++ (l.take i).flatMap f) (c := o)
  (fun c hc => ⟨fin c, h0 c, by rw [hc, List.take_length]⟩)
  (fun i a c ha hc => by
   have hi := BY ha
   have := hlen i
   refine .inr ⟨c ++ f a, h1 i a c ha (by rw [hc, List.length_append]; omega), ?_⟩
   rw [hc, List.take_add_one, ha]
   simp only [Option.toList_some, List.flatMap_append, List.flatMap_cons, List.flatMap_nil, List.append_nil, List.append_assoc])
  (by simp)
 exact h2
section
variable {p : AO} {n : CX}
def KA (p : AO) (s : A1) : List Int :=
 if Ap p s.elem = 2 then [Ae (3 - (if s.out > s.in_ then s.out else s.in_))] else if Ap p s.elem = 3 then (if 1 < s.in_ then [0, 1] else [2, 3]) else []
def KB (p : AO) (e : Int) (k : Int) : List AE := if (A0 p ⟨e, k⟩).isSome then [⟨e, k⟩] else []
def KZ (p : AO) (s : A1) : List AE := (KA p s).flatMap (KB p s.elem)
def D7 (p : AO) (l : List A1) : List AE := l.flatMap (KZ p)
theorem O5 (s : A1) : (KA p s).length <= 2 := by
 unfold KA
 split
 .simp
 split
 .split <;> simp
 simp
theorem So (e k : Int) : (KB p e k).length <= 1 := by unfold KB; split <;> simp
theorem Nr (s : A1) : (KZ p s).length <= 2 := by
 have := KX (KB p s.elem) 1 (KA p s) fun k _ => So s.elem k
 have := O5 (p := p) s
 unfold KZ
 omega
theorem Ns (l : List A1) : (D7 p l).length <= l.length * 2 := KX _ 2 l fun s _ => Nr s
theorem Yt (hn : DG p n) (s : A1) (c : Int × List AE) (ks : List Int) (hk : ks.length <= 10) (o : List AE) (ho : o.length <= 400000) :
  AP (Gw n c s ks) (0, o) = some (.inl (Ae (c.1 + 1), o ++ ks.flatMap (KB p s.elem))) := by
 refine MC 400000 (l := ks) (KB p s.elem) (fun k => by have := So (p := p) s.elem k; omega) (by omega) (fin := fun o => (Sum.inl (Ae (c.1 + 1), o) : (Int × List AE) ⊕ List AE)) (fun o => ?_) (fun i a o ha hb => ?_) o ho
 .simp only [Gw, Bw, cond_false]
 have := BY ha
 simp only [Gw, BS ha, cond_true, Af, ha, Option.bind_some, QH hn, AT (show i < 1000000000 by omega)]
 unfold KB
 cases (A0 p ⟨s.elem, a⟩).isSome with
 | true => simp [A2 (show o.length + [(⟨s.elem, a⟩ : AE)].length <= 4294967296 by simp; omega)]
 | false => simp
theorem Yu (hn : DG p n) (r : AU) (hl : r.steps.length <= 1000) : Lb n r = some (D7 p r.steps) := by
 unfold Lb
 rw [show D7 p r.steps = ([] : List AE) ++ r.steps.flatMap (KZ p) from rfl]
 refine MC 0 (l := r.steps) (KZ p) (fun s => by have := Nr (p := p) s; omega) (by omega) (fin := fun o => o) (fun o => ?_) (fun i s o ha hb => ?_) [] (by simp)
 .simp only [JG, Bw, cond_false]
 have hi := BY ha
 simp only [JG, BS ha, cond_true, Af, ha, Option.bind_some, QG hn]
 have e : (bif (Ap p s.elem == 2) then some [Ae (3 - (if s.out > s.in_ then s.out else s.in_))] else bif (Ap p s.elem == 3) then bif decide (1 < s.in_) then some [0, 1] else some [2, 3] else some ([] : List Int) : Option (List Int)) = some (KA p s) := by
  unfold KA
  by_cases c2 : Ap p s.elem = 2
  .simp [c2]
  have b2 : (Ap p s.elem == 2) = false := beq_eq_false_iff_ne.2 c2
  by_cases c3 : Ap p s.elem = 3
  .by_cases d : 1 < s.in_ <;> simp [b2, c2, c3, d]
  have b3 : (Ap p s.elem == 3) = false := beq_eq_false_iff_ne.2 c3
  simp [b2, b3, c2, c3]
 rw [e]
 have hk := O5 (p := p) s
 simp only [Option.bind_some, Yt hn s ((i : Int), o) (KA p s) (by omega) o (by omega), AT (show i < 1000000000 by omega)]
 rfl
theorem Xh (hv : Ce p) (e : Int) (c : Int × List AE) (ks : List Int) (hk : ks.length <= 10) (o : List AE) (ho : o.length <= 400000) :
  AP (Fh p c (ks.map fun k => (⟨e, k⟩ : AE))) (0, o) = some (.inl (Ae (c.1 + 1), o ++ ks.flatMap (KB p e))) := by
 have hj := hv.nj
 have e1 : ks.flatMap (KB p e) = (ks.map fun k => (⟨e, k⟩ : AE)).flatMap fun x => if (A0 p x).isSome then [x] else [] := by
  rw [List.flatMap_map]; rfl
 rw [e1]
 refine MC 400000 (l := ks.map fun k => (⟨e, k⟩ : AE)) (fun x => if (A0 p x).isSome then [x] else []) (fun k => by split <;> simp) (by simp; omega) (fin := fun o => (Sum.inl (Ae (c.1 + 1), o) : (Int × List AE) ⊕ List AE)) (fun o => ?_) (fun i a o ha hb => ?_) o ho
 .simp only [Fh, Bw, cond_false]
 have hi := BY ha
 rw [List.length_map] at hi
 simp only [Fh, BS ha, cond_true, Af, ha, Option.bind_some, Cv p (by omega), AT (show i < 1000000000 by omega)]
 cases (A0 p a).isSome with
 | true => simp [A2 (show o.length + [a].length <= 4294967296 by simp; omega)]
 | false => simp
theorem Xi (hv : Ce p) (r : AU) (hl : r.steps.length <= 1000) : IA p r = some (D7 p r.steps) := by
 unfold IA
 rw [show D7 p r.steps = ([] : List AE) ++ r.steps.flatMap (KZ p) from rfl]
 refine MC 0 (l := r.steps) (KZ p) (fun s => by have := Nr (p := p) s; omega) (by omega) (fin := fun o => o) (fun o => ?_) (fun i s o ha hb => ?_) [] (by simp)
 .simp only [Hj, Bw, cond_false]
 have hi := BY ha
 have w1 : Ae (0 + 1) = 1 := by decide
 have w3 : Ae (2 + 1) = 3 := by decide
 simp only [Hj, BS ha, cond_true, Af, ha, Option.bind_some, Lg]
 have e : (bif (Ap p s.elem == 2) then (A7 ([] : List AE) [(⟨s.elem, Ae (3 - (if s.out > s.in_ then s.out else s.in_))⟩ : AE)]).bind fun y => some y else bif (Ap p s.elem == 3) then ((bif decide (2 <= s.in_) then some 0 else some 2 : Option (Int))).bind fun (t : Int) => (A7 ([] : List AE) [(⟨s.elem, t⟩ : AE), (⟨s.elem, Ae (t + 1)⟩ : AE)]).bind fun y => some y else some ([] : List AE) : Option (List AE)) = some ((KA p s).map fun k => (⟨s.elem, k⟩ : AE)) := by
  unfold KA
  by_cases c2 : Ap p s.elem = 2
  .simp [c2, A7]
  have b2 : (Ap p s.elem == 2) = false := beq_eq_false_iff_ne.2 c2
  by_cases c3 : Ap p s.elem = 3
  .by_cases d : 1 < s.in_
   .have d2 : decide (2 <= s.in_) = true := by simp; omega
    simp only [b2, c2, c3, d, d2, cond_false, cond_true, if_false, if_true, beq_self_eq_true, Option.bind_some, w1, A7, List.length_nil, List.length_cons, List.nil_append, List.map_cons, List.map_nil]
    simp
   have d2 : decide (2 <= s.in_) = false := by simp; omega
   simp only [b2, c2, c3, d, d2, cond_false, cond_true, if_false, if_true, beq_self_eq_true, Option.bind_some, w3, A7, List.length_nil, List.length_cons, List.nil_append, List.map_cons, List.map_nil]
   simp
  have b3 : (Ap p s.elem == 3) = false := beq_eq_false_iff_ne.2 c3
  simp [b2, b3, c2, c3]
 rw [e]
 have hk := O5 (p := p) s
 simp only [Option.bind_some, Xh hv s.elem ((i : Int), o) (KA p s) (by omega) o (by omega), AT (show i < 1000000000 by omega)]
 rfl
theorem Is {s : Int} {r : AU} (h : r ∈ Gz p s) : r.steps.length <= 12 := (FL h).2.2.2.2.2.2.1
end
end Go.E
/- Plain Lean: which ports lie on the sides of a road (law SideApart). No condition. -/
namespace Go.E
open Go
section
variable {p : AO} {n : CX}
theorem Z8 (k : Int) : 0 <= CW k /\ CW k <= 4 := by
 unfold CW
 repeat' split
 all_goals omega
end
end Go.E
/- Plain Lean: what the sides of a road reach, told without an order (OA, K3): the program's answer. No condition. -/
namespace Go.E
open Go
def Bk (vis : List (AE × Bool)) (x : AE) : Bool := (AZ vis x).getD false
theorem GK (vis : List (AE × Bool)) (x y : AE) : Bk (A5 x true vis) y = true ↔ y = x \/ Bk vis y = true := by
 unfold Bk
 rw [DE]
 by_cases e : y = x <;> simp [e]
theorem MX {α : Type} {P P' : α -> Bool} (hpp : ∀ z, P' z = true -> P z = true) : ∀ l : List α, (l.filter P').length <= (l.filter P).length /\ ∀ x ∈ l, P x = true -> P' x = false -> (l.filter P').length + 1 <= (l.filter P).length
 | [] => ⟨Nat.le_refl _, by simp⟩
 | a :: l => by
  obtain ⟨h1, h2⟩ := MX hpp l
  rw [List.filter_cons, List.filter_cons]
  by_cases c : P' a = true
  .rw [if_pos c, if_pos (hpp a c)]
   simp only [List.length_cons]
   refine ⟨by omega, fun x hx hp hp' => ?_⟩
   rcases List.mem_cons.1 hx with rfl | hx
   .rw [c] at hp'; cases hp'
   have := h2 x hx hp hp'; omega
  rw [if_neg c]
  by_cases d : P a = true
  .rw [if_pos d]
   simp only [List.length_cons]
   exact ⟨by omega, fun x hx hp hp' => by omega⟩
  rw [if_neg d]
  refine ⟨h1, fun x hx hp hp' => ?_⟩
  rcases List.mem_cons.1 hx with rfl | hx
  .exact absurd hp d
  exact h2 x hx hp hp'
section
variable {p : AO} {n : CX}
def PW (p : AO) (shut : List Bool) (x : AE) : Bool := decide (0 <= BD p x) && (An shut (BD p x)).getD false
inductive OA (p : AO) (pos : List Int) (shut : List Bool) (st : List A1) : AE -> Prop
 | init {x y : AE} : x ∈ D7 p st -> A0 p x = some y -> OA p pos shut st y
 | step {x y : AE} {o : Int} : OA p pos shut st x -> x.elem ∉ st.map (·.elem) -> PW p shut x = false -> Ap p x.elem ≠ 4 -> BX p x.elem x.fin (Yp pos x.elem) = some o -> A0 p ⟨x.elem, o⟩ = some y -> OA p pos shut st y
def K3 (p : AO) (pos : List Int) (shut : List Bool) (st : List A1) (e : Int) : Prop :=
 ∃ x, OA p pos shut st x /\ x.elem = e /\ e ∉ st.map (·.elem) /\ PW p shut x = false /\ (Ap p e = 4 \/ (BX p e x.fin (Yp pos e)).isSome = true)
variable {pos : List Int} {shut : List Bool} {r : AU}
theorem OA.from {st : List A1} {y : AE} (h : OA p pos shut st y) : ∃ x, A0 p x = some y := by
 cases h with
 | init h1 h2 => exact ⟨_, h2⟩
 | step _ _ _ _ _ h2 => exact ⟨_, h2⟩
theorem Xj {x : AE} (h : DJ p x = true) : 0 <= x.elem /\ x.elem < p.elems.length := by
 obtain ⟨h1, h2, h3⟩ := FM h
 refine Wa fun e => ?_
 rw [e] at h3
 simp [CW] at h3
 omega
def RP (vis : List (AE × Bool)) (zone : List (Int × Bool)) (p : AO) (y : AE) : Prop := Bk vis y = true \/ (Ap p y.elem = 4 /\ (AZ zone y.elem).isSome = true)
def Wf (p : AO) (pos : List Int) (shut : List Bool) (st : List A1) (q : List AE) (vis : List (AE × Bool)) (zone : List (Int × Bool)) (x : AE) : Prop :=
 x.elem ∉ st.map (·.elem) -> PW p shut x = false -> Ap p x.elem ≠ 4 /\ ∀ o, BX p x.elem x.fin (Yp pos x.elem) = some o -> (AZ zone x.elem).isSome = true /\ ∀ y, A0 p ⟨x.elem, o⟩ = some y -> y ∈ q \/ RP vis zone p y
def HV (p : AO) (vis : List (AE × Bool)) : Nat := ((CS p).filter fun x => !Bk vis x).length
structure RI (p : AO) (pos : List Int) (shut : List Bool) (st : List A1) (M k : Nat) (q : List AE) (vis : List (AE × Bool)) (zone : List (Int × Bool)) : Prop where
 arr : ∀ x ∈ q, OA p pos shut st x
 full : ∀ x, Bk vis x = true -> Wf p pos shut st q vis zone x
 init : ∀ x y, x ∈ D7 p st -> A0 p x = some y -> y ∈ q \/ RP vis zone p y
 zon : ∀ e, (AZ zone e).isSome = true -> K3 p pos shut st e
 nodup : (zone.map (·.1)).Nodup
 len : zone.length <= k
 meas : k + q.length + 2 * HV p vis <= M
theorem RI.next {st : List A1} {M k : Nat} {x : AE} {q q' : List AE} {vis vis' : List (AE × Bool)} {zone zone' : List (Int × Bool)} (h : RI p pos shut st M k (x :: q) vis zone)
  (hq : ∀ y ∈ q, y ∈ q') (hq2 : ∀ y ∈ q', OA p pos shut st y) (hv : ∀ y, Bk vis y = true -> Bk vis' y = true) (hv2 : ∀ y, Bk vis' y = true -> Bk vis y = true \/ y = x)
  (hz : ∀ e, (AZ zone e).isSome = true -> (AZ zone' e).isSome = true) (hz2 : ∀ e, (AZ zone' e).isSome = true -> K3 p pos shut st e) (hz3 : (zone'.map (·.1)).Nodup) (hz4 : zone'.length <= zone.length + 1)
  (hx : RP vis' zone' p x) (hf : Bk vis' x = true -> Bk vis x = false -> Wf p pos shut st q' vis' zone' x) (hm : q'.length + 2 * HV p vis' <= q.length + 2 * HV p vis) : RI p pos shut st M (k + 1) q' vis' zone' := by
 have keep : ∀ y, (y ∈ x :: q \/ RP vis zone p y) -> y ∈ q' \/ RP vis' zone' p y := by
  rintro y (hy | hy | ⟨hy, hy2⟩)
  .rcases List.mem_cons.1 hy with rfl | hy
   .exact .inr hx
   exact .inl (hq y hy)
  .exact .inr (.inl (hv y hy))
  exact .inr (.inr ⟨hy, hz _ hy2⟩)
 refine ⟨hq2, fun y hy => ?_, fun a y ha hy => keep y (h.init a y ha hy), hz2, hz3, by have := h.len; omega, by have := h.meas; simp only [List.length_cons] at this; omega⟩
 have old : Bk vis y = true -> Wf p pos shut st q' vis' zone' y := fun hy => fun h1 h2 => by
  obtain ⟨g1, g2⟩ := h.full y hy h1 h2
  exact ⟨g1, fun o ho => ⟨hz _ (g2 o ho).1, fun z hz' => keep z ((g2 o ho).2 z hz')⟩⟩
 rcases hv2 y hy with hy' | rfl
 .exact old hy'
 cases c : Bk vis y with
 | true => exact old c
 | false => exact hf hy c
end
end Go.E
/- Plain Lean: the elements that Reach answers are those of K3, ascending (laws SideShut, SideRuns). No condition. -/
namespace Go.E
open Go
theorem O0 {l : List Int} (h : l.Nodup) : (En l).Pairwise (· < ·) := by
 have h1 := JM l
 have h2 : (En l).Nodup := (Dc l).nodup_iff.2 h
 exact (h1.and h2).imp fun {a b} ⟨x, y⟩ => by omega
section
variable {p : AO} {n : CX} {pos : List Int} {shut : List Bool} {r : AU}
theorem Xk {vis : List (AE × Bool)} (x : AE) : HV p (A5 x true vis) <= HV p vis :=
 (MX (fun z hz => by
  cases hs : Bk vis z with
  | false => rfl
  | true =>
   have := (GK vis x z).2 (.inr hs)
   simp only [this, Bool.not_true] at hz
   cases hz) (CS p)).1
theorem UU {vis : List (AE × Bool)} {x : AE} (hx : x ∈ CS p) (hv : Bk vis x = false) : HV p (A5 x true vis) + 1 <= HV p vis :=
 (MX (fun z hz => by
  cases hs : Bk vis z with
  | false => rfl
  | true =>
   have := (GK vis x z).2 (.inr hs)
   simp only [this, Bool.not_true] at hz
   cases hz) (CS p)).2 x hx (by simp [hv]) (by simp [(GK vis x x).2 (.inl rfl)])
def Ek (p : AO) (l : List AE) : List AE := l.map fun x => (A0 p x).getD ⟨0, 0⟩
theorem Li {l : List A1} {x : AE} (h : x ∈ D7 p l) : ∃ y, A0 p x = some y := by
 unfold D7 KZ at h
 obtain ⟨s, _, h⟩ := List.mem_flatMap.1 h
 obtain ⟨k, _, h⟩ := List.mem_flatMap.1 h
 unfold KB at h
 split at h
 .rename_i hs
  simp at h
  subst h
  exact Option.isSome_iff_exists.1 hs
 simp at h
theorem Sq {a b : List Bool} (h : ∀ j : Nat, a[j]? = some true -> b[j]? = some true) {x : AE} (hs : PW p b x = false) : PW p a x = false := by
 unfold PW at *
 by_cases c : 0 <= BD p x
 .obtain ⟨i, hi⟩ := Int.eq_ofNat_of_zero_le c
  rw [hi] at hs ⊢
  simp only [Af, Int.natCast_nonneg, decide_true, Bool.true_and] at hs ⊢
  cases ha : a[i]? with
  | none => rfl
  | some v =>
   cases v with
   | false => rfl
   | true => rw [h i ha] at hs; cases hs
 simp [c]
theorem OA.mono {a b : List Bool} (h : ∀ j : Nat, a[j]? = some true -> b[j]? = some true) {st : List A1} {x : AE} (hx : OA p pos b st x) : OA p pos a st x := by
 induction hx with
 | init h1 h2 => exact .init h1 h2
 | step h1 h2 h3 h4 h5 h6 ih => exact .step ih h2 (Sq h h3) h4 h5 h6
theorem K3.mono {a b : List Bool} (h : ∀ j : Nat, a[j]? = some true -> b[j]? = some true) {st : List A1} {e : Int} (hx : K3 p pos b st e) : K3 p pos a st e := by
 obtain ⟨x, h1, h2, h3, h4, h5⟩ := hx
 exact ⟨x, h1.mono h, h2, h3, Sq h h4, h5⟩
theorem K3.range (hv : Ce p) {st : List A1} {e : Int} (h : K3 p pos shut st e) : 0 <= e /\ e < p.elems.length := by
 obtain ⟨x, h1, rfl, _⟩ := h
 obtain ⟨w, hw⟩ := h1.from
 exact Xj (hv.join.next hw)
end
end Go.E
/- Plain Lean: what is reached is in order, outside the road, and no more if more signals are shut (law SideShut); a run that comes in from the side begins in it (law SideRuns). No condition. -/
namespace Go.E
open Go
section
variable {p : AO} {n : CX} {pos : List Int} {shut : List Bool} {r : AU}
end
end Go.E
/- Plain Lean: a run that comes in from the side begins in an element that is reached (law SideRuns). No condition. -/
namespace Go.E
open Go
theorem Nt {x : AE} : ∀ {l m : List Bx}, x ∉ (l.flatMap fun j => [j.a, j.b]) -> Cp (l ++ m) x = Cp m x
 | [], m, _ => rfl
 | j :: l, m, h => by
  simp only [List.flatMap_cons, List.mem_append, List.mem_cons, List.not_mem_nil, or_false, not_or] at h
  obtain ⟨⟨h1, h2⟩, h3⟩ := h
  simp only [List.cons_append, Cp]
  rw [if_neg (fun e => h1 e.symm), if_neg (fun e => h2 e.symm)]
  exact Nt h3
theorem Pn {x y : AE} : ∀ {l : List Bx}, Cp l x = some y -> ∃ l1 j l2, l = l1 ++ j :: l2 /\ ((j.a = x /\ j.b = y) \/ (j.b = x /\ j.a = y))
 | j :: l, h => by
  simp only [Cp] at h
  split at h
  .rename_i e; cases h; exact ⟨[], j, l, rfl, .inl ⟨e, rfl⟩⟩
  split at h
  .rename_i e; cases h; exact ⟨[], j, l, rfl, .inr ⟨e, rfl⟩⟩
  obtain ⟨l1, k, l2, e, hk⟩ := Pn h
  exact ⟨j :: l1, k, l2, by rw [e]; rfl, hk⟩
section
variable {p : AO} {n : CX} {pos : List Int} {shut : List Bool} {r : AU}
theorem U5 (hj : Hm p) : (CS p).Nodup := by
 rw [List.Nodup, List.pairwise_iff_getElem]
 intro i k hi hk hlt
 exact hj.dist k i _ _ hlt (List.getElem?_eq_getElem hk) (List.getElem?_eq_getElem hi)
theorem Ss (hj : Hm p) {x y : AE} (h : A0 p x = some y) : A0 p y = some x := by
 obtain ⟨l1, j, l2, e, hk⟩ := Pn h
 have hnd := U5 hj
 unfold CS at hnd
 unfold A0
 rw [e] at hnd ⊢
 rw [List.flatMap_append, List.flatMap_cons, List.nodup_append] at hnd
 obtain ⟨_, h2, h3⟩ := hnd
 have ha : j.a ∉ l1.flatMap fun j => [j.a, j.b] := fun hm => h3 _ hm _ (by simp) rfl
 have hb : j.b ∉ l1.flatMap fun j => [j.a, j.b] := fun hm => h3 _ hm _ (by simp) rfl
 have hab : j.a ≠ j.b := by
  rw [List.nodup_append] at h2
  have := h2.1
  simpa using this
 rcases hk with ⟨rfl, rfl⟩ | ⟨rfl, rfl⟩
 .rw [Nt hb]
  simp [Cp, hab]
 rw [Nt ha]
 simp [Cp]
theorem Xl {e i : Int} {w : DM} (h : w ∈ CR p e i) : (⟨i, w.pos⟩ : DM) ∈ CR p e w.out := by
 obtain ⟨f1, f2, f3, f4, f5, _⟩ := Si h
 have hh : DJ p ⟨e, i⟩ = true := by simp [DJ, f3, f4]
 have hh2 : DJ p ⟨e, w.out⟩ = true := by simp [DJ, f1, f2]
 unfold CR at h ⊢
 rw [hh] at h
 rw [hh2]
 simp only [if_true] at h ⊢
 by_cases k1 : Ap p e = 1
 .rw [if_pos k1] at h ⊢
  simp at h
  subst h
  simp; omega
 rw [if_neg k1] at h ⊢
 by_cases k3 : Ap p e = 3
 .rw [if_pos k3] at h ⊢
  rw [k3] at f4
  simp [CW] at f4
  simp at h
  subst h
  have : i = 0 \/ i = 1 \/ i = 2 \/ i = 3 := by omega
  rcases this with rfl | rfl | rfl | rfl <;> simp
 rw [if_neg k3] at h ⊢
 by_cases k2 : Ap p e = 2
 .rw [if_pos k2] at h ⊢
  rw [k2] at f4
  simp [CW] at f4
  by_cases i0 : i = 0
  .subst i0
   simp at h
   rcases h with rfl | rfl <;> simp
  rw [if_neg i0] at h
  simp at h
  subst h
  have : i = 1 \/ i = 2 := by omega
  rcases this with rfl | rfl <;> simp
 rw [if_neg k2] at h; simp at h
theorem O6 {e i x o : Int} (h : BX p e i x = some o) : BX p e o x = some i := by
 obtain ⟨w, hw, rfl, hx⟩ := O2 h
 have := Xl hw
 exact WZ this hx
end
end Go.E
/- Plain Lean: what the sides of a road reach: the document's answer and the program's are one (law SideReaches). No condition. -/
namespace Go.E
open Go
theorem Wg (l : List AE) (hl : l.length < 1000000) (x : AE) : Gb l x = some (decide (x ∈ l)) := by
 unfold Gb
 obtain ⟨b, h1, h2⟩ := Bm (l := l) (step := Dv l x) (Post := fun b => b = decide (x ∈ l)) (fun _ y => y ≠ x) (fun good => ⟨false, by simp [Dv], by
   symm; rw [decide_eq_false_iff_not]; intro hm
   obtain ⟨i, hi⟩ := List.getElem?_of_mem hm
   exact good i x hi rfl⟩) (fun i a ha _ => by
   have := BY ha
   by_cases e : a = x
   .exact .inl ⟨true, by simp only [Dv, BS ha, cond_true, Af, ha, Option.bind_some, e, beq_self_eq_true], by symm; rw [decide_eq_true_iff]; subst e; exact List.mem_of_getElem? ha⟩
   have : (a == x) = false := beq_eq_false_iff_ne.2 e
   exact .inr ⟨by simp only [Dv, BS ha, cond_true, Af, ha, Option.bind_some, this, cond_false, AT (show i < 1000000000 by omega)], e⟩)
 rw [h1, h2]
section
variable {p : AO} {n : CX} {pos : List Int} {shut : List Bool} {r : AU}
theorem S8 (p : AO) (e i x : Int) : HT p e i x = some ((BX p e i x).getD 0, (BX p e i x).isSome) := by
 unfold HT BX
 rw [RK]
 simp only [Option.bind_some]
 have hl := L9 p e i
 refine Ir (γ := Unit) (CR p e i) (fun k _ => (k : Int)) (fun _ _ r => some ((Ck r x).getD 0, (Ck r x).isSome)) (fun _ => ?_) (fun k _ a r ha hi => ?_) ()
 .simp [Gx, Ck]
 simp only [Gx, Af, ha, Option.bind_some, BS ha, cond_true, Ck, Eh]
 by_cases h1 : a.pos = 0
 .left; simp [h1]
 by_cases h2 : a.pos = x
 .left
  simp [h1, h2]
 right
 have : (a.pos == x) = false := beq_eq_false_iff_ne.2 h2
 exact ⟨(), by simp [h1, this, AT (show k < 1000000000 by omega)], by simp [h1, h2]⟩
theorem OB {e f x o : Int} (h : BX p e f x = some o) : 0 <= o /\ o < CW (Ap p e) := by
 obtain ⟨w, hw, rfl, _⟩ := O2 h
 have := Si hw
 exact ⟨this.1, this.2.1⟩
theorem Wh (p : AO) (e f x : Int) : KT p e f x = some ((BX p e f x).getD 0, (BX p e f x).isSome) := by
 unfold KT
 have he := Z8 (Ap p e)
 obtain ⟨b, h1, rfl⟩ := EZ (step := JI p e f x) (Post := fun b => b = ((BX p e f x).getD 0, (BX p e f x).isSome)) (fun k i => i = (k : Int) /\ (k : Int) <= CW (Ap p e) /\ ∀ o, BX p e f x = some o -> (k : Int) <= o) 5 (s := (0 : Int)) (by
  rintro k i ⟨rfl, h2, h3⟩
  simp only [JI, Ei, JO, Option.bind_some]
  by_cases d : (k : Int) < CW (Ap p e)
  .rw [decide_eq_true d]
   simp only [cond_true, S8, Option.bind_some]
   by_cases c : BX p e (k : Int) x = some f
   .left
    refine ⟨_, ?_, rfl⟩
    rw [c, O6 c]
    simp
   right
   refine ⟨by omega, ((k + 1 : Nat) : Int), ?_, rfl, by omega, fun o ho => ?_⟩
   .have w := AT (show k < 1000000000 by omega)
    cases ht : BX p e (k : Int) x with
    | none => simp only [Option.isSome_none, cond_false, Option.bind_some, w]
    | some v =>
     have hne : (v == f) = false := beq_eq_false_iff_ne.2 (fun hv => c (by rw [ht, hv]))
     simp only [Option.isSome_some, Option.getD_some, cond_true, Option.bind_some, hne, cond_false, w]
   have := h3 o ho
   have hne : (k : Int) ≠ o := fun hk => c (by rw [hk]; exact O6 ho)
   omega
  left
  refine ⟨_, ?_, rfl⟩
  rw [decide_eq_false d]
  cases ht : BX p e f x with
  | none => rfl
  | some o =>
   have := h3 o ht
   have := OB ht
   omega) ⟨rfl, by omega, fun o ho => (OB ho).1⟩
 exact h1
end
end Go.E
/- The example that the laws of flanks AF at, reckoned by the kernel. No condition. -/
namespace Go.E
open Go Go.Proofs
set_option maxRecDepth 100000
end Go.E
/- The example that the laws of proofs AF at, reckoned by the kernel. No condition. -/
namespace Go.E
open Go Go.Proofs
set_option maxRecDepth 100000
end Go.E
/- Plain Lean: the flank of a road: how its search begins; a road without side ports (law FlankNone). No condition. -/
namespace Go.E
open Go
theorem JT (l : List Int) (hl : l.length < 1000000) (x : Int) : Bi l x = some (decide (x ∈ l)) := by
 unfold Bi Cs
 obtain ⟨t, h1, h2⟩ := JP (l := l) (f := fun a => x == a) hl (step := CK l x) (by simp [CK]) (fun i a ha => by
  have := BY ha
  simp only [CK, BS ha, cond_true, Af, ha, Option.bind_some, AT (show i < 1000000000 by omega)]
  cases hb : (x == a) <;> simp)
 rw [h1]
 simp only [Option.bind_some, Option.some.injEq]
 rcases h2 with ⟨rfl, h2⟩ | ⟨a, h0, h2, _⟩
 .have : x ∉ l := fun h => by have := List.find?_eq_none.1 h2 x h; simp at this
  simp [this]
 have hm := List.mem_of_find?_eq_some h2
 have he := List.find?_some h2
 simp only [beq_iff_eq] at he
 subst he
 simp [h0, hm]
theorem OC (l : List AM) (hl : l.length < 1000000) (x : AM) : Cm l x = some (decide (x ∈ l)) := by
 unfold Cm H9
 obtain ⟨t, h1, h2⟩ := JP (l := l) (f := fun a => x == a) hl (step := DR l x) (by simp [DR]) (fun i a ha => by
  have := BY ha
  simp only [DR, BS ha, cond_true, Af, ha, Option.bind_some, AT (show i < 1000000000 by omega)]
  cases hb : (x == a) <;> simp)
 rw [h1]
 simp only [Option.bind_some, Option.some.injEq]
 rcases h2 with ⟨rfl, h2⟩ | ⟨a, h0, h2, _⟩
 .have : x ∉ l := fun h => by have := List.find?_eq_none.1 h2 x h; simp at this
  simp [this]
 have hm := List.mem_of_find?_eq_some h2
 have he := List.find?_some h2
 simp only [beq_iff_eq] at he
 subst he
 simp [h0, hm]
section
variable {p : AO} {n : CX} {r : AU}
theorem Pp (hv : Ce p) (hn : DG p n) (h1 : r.steps.length <= 12) (h2 : r.needs.length <= 1000) : Hi n r = AP (CG n r r.steps r.needs p) (false, [], [], [], [], (Ek p (D7 p r.steps)).reverse) := by
 unfold Hi
 have e1 : H7 r.steps = some r.steps := EI _ (by omega)
 have e2 : BU r.needs = some r.needs := EI _ (by omega)
 have e3 : Jo n = some p := by unfold Jo; rw [hn.plan, Vb p hv.few]; rfl
 simp only [e1, e2, e3, Option.bind_some, Yu hn (⟨r.frm, r.to, r.fin, r.steps, r.needs, [], [], [], false⟩ : AU) (show r.steps.length <= 1000 by omega)]
 have hp := Ns (p := p) r.steps
 generalize hL : D7 p r.steps = L at hp
 have key : ∀ (k : Nat) (q : List AE), k <= L.length -> q = (Ek p (L.drop k)).reverse -> AP (Ga n r r.steps r.needs p L) ((k : Int) - 1, q) = AP (CG n r r.steps r.needs p) (false, [], [], [], [], (Ek p L).reverse) := by
  intro k
  induction k with
  | zero =>
   intro q _ hq
   rw [List.drop_zero] at hq
   subst hq
   cases hr : AP (CG n r r.steps r.needs p) (false, [], [], [], [], (Ek p L).reverse) with
   | some b =>
    refine B7 ?_
    have d : decide ((0 : Int) <= ((0 : Nat) : Int) - 1) = false := by decide
    simp only [Ga, d, cond_false, hr, Option.map_some]
   | none =>
    rw [IY]
    have d : decide ((0 : Int) <= ((0 : Nat) : Int) - 1) = false := by decide
    simp only [Ga, d, cond_false, hr, Option.map_none]
  | succ k ih =>
   intro q hk hq
   obtain ⟨x, hx⟩ : ∃ x, L[k]? = some x := ⟨_, List.getElem?_eq_getElem (by omega)⟩
   have hql : q.length <= 24 := by rw [hq]; unfold Ek; simp; omega
   have hd : L.drop k = x :: L.drop (k + 1) := by
    obtain ⟨h, e⟩ := List.getElem?_eq_some_iff.1 hx
    rw [List.drop_eq_getElem_cons h, e]
   rw [<- ih (q ++ [(A0 p x).getD ⟨0, 0⟩]) (by omega) (by rw [hd, hq]; unfold Ek; simp)]
   refine B2 ?_
   have d : decide ((0 : Int) <= (k : Int)) = true := decide_eq_true (by omega)
   have e : (((k + 1 : Nat) : Int) - 1) = (k : Int) := by omega
   have w : Ae ((k : Int) - 1) = (k : Int) - 1 := by rw [CL] <;> omega
   simp only [Ga, d, cond_true, e, Af, hx, Option.bind_some, QH hn, A2 (show q.length + [(A0 p x).getD (⟨0, 0⟩ : AE)].length <= 4294967296 by simp; omega), w]
 have w : Ae ((L.length : Int) - 1) = (L.length : Int) - 1 := by rw [CL] <;> omega
 rw [w]
 exact key L.length [] (Nat.le_refl _) (by simp [Ek])
end
end Go.E
/- Plain Lean: the flank of a road: one round of its search; what holds behind it. No condition. -/
namespace Go.E
open Go
section
variable {p : AO} {n : CX} {r : AU}
def BM (b : Bool) (z : List Int) (e : Int) : Bool × Bool × List Int := if e ∈ z then (true, b, z) else if 12 <= z.length then (false, true, z) else (true, b, z ++ [e])
def EC (p : AO) (l : List AE) (x : AE) : List AE := match A0 p x with
 | some y => l ++ [y]
 | none => l
abbrev FS := Bool × List (AE × Bool) × List AM × List Int × List Int × List AE
def K4 (p : AO) (st : List A1) (nd : List AM) (b : Bool) (vis : List (AE × Bool)) (g : List AM) (z h : List Int) (l : List AE) (x : AE) : FS :=
 if x.elem ∈ st.map (·.elem) \/ Bk vis x = true then (b, vis, g, z, h, l)
 else if 0 <= BD p x /\ p.hard = false then (b, A5 x true vis, g, z, if BD p x ∈ h then h else h ++ [BD p x], l)
 else if Ap p x.elem = 4 then (true, A5 x true vis, g, z, h, l)
 else if Ap p x.elem = 2 then
  if x.fin = 0 then ((BM b z x.elem).2.1, A5 x true vis, g, (BM b z x.elem).2.2, h, if (BM b z x.elem).1 then EC p (EC p l ⟨x.elem, 2⟩) ⟨x.elem, 1⟩ else l)
  else if ⟨x.elem, x.fin⟩ ∈ nd \/ ⟨x.elem, x.fin⟩ ∈ g then ((BM b z x.elem).2.1, A5 x true vis, g, (BM b z x.elem).2.2, h, if (BM b z x.elem).1 then EC p l ⟨x.elem, 0⟩ else l)
  else (b, A5 x true vis, if ⟨x.elem, Ae (3 - x.fin)⟩ ∈ g then g else g ++ [⟨x.elem, Ae (3 - x.fin)⟩], z, h, l)
 else match BX p x.elem x.fin 0 with
  | none => (b, A5 x true vis, g, z, h, l)
  | some o => ((BM b z x.elem).2.1, A5 x true vis, g, (BM b z x.elem).2.2, h, if (BM b z x.elem).1 then EC p l ⟨x.elem, o⟩ else l)
theorem Yv (b : Bool) (z : List Int) (e : Int) (hz : z.length <= 1000) : ((Bi z e).bind fun y => bif y then some (true, b, z) else bif decide (12 <= (z.length : Int)) then some (false, true, z) else (A7 z [e]).bind fun y' => some (true, b, y') : Option (Bool × Bool × List Int)) = some (BM b z e) := by
 rw [JT z (by omega)]
 unfold BM
 simp only [Option.bind_some]
 by_cases c : e ∈ z
 .rw [decide_eq_true c, if_pos c]; rfl
 rw [decide_eq_false c, if_neg c]
 by_cases d : 12 <= z.length
 .rw [if_pos d, decide_eq_true (show (12 : Int) <= (z.length : Int) by omega)]; rfl
 rw [if_neg d, decide_eq_false (show ¬ (12 : Int) <= (z.length : Int) by omega)]
 simp only [cond_false, A2 (show z.length + [e].length <= 4294967296 by simp; omega), Option.bind_some]
theorem Nv (hn : DG p n) (l : List AE) (x : AE) (hl : l.length <= 1000000) : ((C3 n x).bind fun y => bif y.2 then (A7 l [y.1]).bind fun y' => some y' else some l : Option (List AE)) = some (EC p l x) := by
 rw [QH hn]
 unfold EC
 cases A0 p x with
 | none => rfl
 | some y => simp only [Option.bind_some, Option.isSome_some, Option.getD_some, cond_true, A2 (show l.length + [y].length <= 4294967296 by simp; omega)]
theorem O7 (l : List AE) (x : AE) : (EC p l x).length <= l.length + 1 := by unfold EC; split <;> simp
theorem RQ (hn : DG p n) (h1 : r.steps.length <= 12) (h2 : r.needs.length <= 1000) (b : Bool) (vis : List (AE × Bool)) (g : List AM) (z h : List Int) (l : List AE) (x : AE) (hg : g.length <= 1000) (hz : z.length <= 1000) (hh : h.length <= 1000) (hl : l.length <= 1000) :
  CG n r r.steps r.needs p (b, vis, g, z, h, l ++ [x]) = some (.inl (K4 p r.steps r.needs b vis g z h l x)) := by
 have d : decide ((0 : Int) < (((l ++ [x]).length : Nat) : Int)) = true := by simp
 have w := Z4 l x (by omega)
 have i1 := AA2 x (rfl : l.length = l.length)
 have s1 := AA3 x (rfl : l.length = l.length)
 have own := AA4 (⟨r.frm, r.to, r.fin, r.steps, r.needs, g, z, h, b⟩ : AU) (show r.steps.length < 1000000 by omega) x.elem
 have tz := Yv b z x.elem hz
 have vb : (AZ vis x).getD false = Bk vis x := rfl
 unfold CG K4
 simp only [d, cond_true, w, i1, s1, own, Option.bind_some, vb]
 by_cases c : x.elem ∈ r.steps.map (·.elem) \/ Bk vis x = true
 .rw [if_pos c]
  rcases c with c | c
  .rw [decide_eq_true c]; rfl
  rw [c]; cases decide (x.elem ∈ r.steps.map (·.elem)) <;> rfl
 rw [if_neg c]
 have c1 : x.elem ∉ r.steps.map (·.elem) := fun h => c (.inl h)
 have c2 : Bk vis x = false := by cases hs : Bk vis x with | false => rfl | true => exact absurd (.inr hs) c
 rw [decide_eq_false c1, c2]
 simp only [cond_false, Option.bind_some, Xd hn]
 by_cases k1 : 0 <= BD p x /\ p.hard = false
 .rw [if_pos k1, decide_eq_true k1.1, k1.2]
  simp only [cond_true, Bool.not_false, Option.bind_some, JT h (show h.length < 1000000 by omega)]
  by_cases m : BD p x ∈ h
  .rw [decide_eq_true m, if_pos m]; rfl
  rw [decide_eq_false m, if_neg m]
  simp only [Bool.not_false, cond_true, A2 (show h.length + [BD p x].length <= 4294967296 by simp; omega), Option.bind_some]
 rw [if_neg k1]
 have eb : (bif decide (0 <= BD p x) then some (!p.hard) else some false : Option Bool) = some false := by
  by_cases a : 0 <= BD p x
  .rw [decide_eq_true a]
   cases hp : p.hard with
   | true => rfl
   | false => exact absurd ⟨a, hp⟩ k1
  rw [decide_eq_false a]; rfl
 simp only [eb, Option.bind_some, cond_false, QG hn]
 by_cases k4 : Ap p x.elem = 4
 .rw [if_pos k4, k4]; rfl
 rw [if_neg k4]
 have b4 : (Ap p x.elem == 4) = false := beq_eq_false_iff_ne.2 k4
 simp only [b4, cond_false]
 by_cases k2 : Ap p x.elem = 2
 .rw [if_pos k2, k2]
  simp only [beq_self_eq_true, cond_true]
  by_cases f0 : x.fin = 0
  .rw [if_pos f0]
   have bf : (x.fin == 0) = true := by simp [f0]
   simp only [bf, cond_true, tz, Option.bind_some]
   have q1 := O7 (p := p) l ⟨x.elem, 2⟩
   cases ht : (BM b z x.elem).1 with
   | true => simp only [cond_true, Nv hn l ⟨x.elem, 2⟩ (by omega), Option.bind_some, Nv hn (EC p l ⟨x.elem, 2⟩) ⟨x.elem, 1⟩ (by omega), if_true]
   | false => simp only [cond_false, Option.bind_some, Bool.false_eq_true, if_false]
  rw [if_neg f0]
  have bf : (x.fin == 0) = false := beq_eq_false_iff_ne.2 f0
  simp only [bf, cond_false, OC r.needs (show r.needs.length < 1000000 by omega), OC g (show g.length < 1000000 by omega), Option.bind_some]
  have en : (bif decide ((⟨x.elem, x.fin⟩ : AM) ∈ r.needs) then some true else some (decide ((⟨x.elem, x.fin⟩ : AM) ∈ g)) : Option Bool) = some (decide ((⟨x.elem, x.fin⟩ : AM) ∈ r.needs \/ (⟨x.elem, x.fin⟩ : AM) ∈ g)) := by
   by_cases a : (⟨x.elem, x.fin⟩ : AM) ∈ r.needs
   .simp [a]
   simp [a]
  simp only [en, Option.bind_some]
  by_cases a : (⟨x.elem, x.fin⟩ : AM) ∈ r.needs \/ (⟨x.elem, x.fin⟩ : AM) ∈ g
  .rw [if_pos a, decide_eq_true a]
   simp only [cond_true, tz, Option.bind_some]
   cases ht : (BM b z x.elem).1 with
   | true => simp only [cond_true, Nv hn l ⟨x.elem, 0⟩ (by omega), Option.bind_some, if_true]
   | false => simp only [cond_false, Option.bind_some, Bool.false_eq_true, if_false]
  rw [if_neg a, decide_eq_false a]
  simp only [cond_false]
  by_cases m : (⟨x.elem, Ae (3 - x.fin)⟩ : AM) ∈ g
  .rw [decide_eq_true m, if_pos m]; rfl
  rw [decide_eq_false m, if_neg m]
  simp only [Bool.not_false, cond_true, A2 (show g.length + [(⟨x.elem, Ae (3 - x.fin)⟩ : AM)].length <= 4294967296 by simp; omega), Option.bind_some]
 rw [if_neg k2]
 have b2 : (Ap p x.elem == 2) = false := beq_eq_false_iff_ne.2 k2
 simp only [b2, cond_false, Ms, U2 hn, Option.bind_some]
 cases ht : BX p x.elem x.fin 0 with
 | none => rfl
 | some o =>
  simp only [Option.isSome_some, cond_true, Option.getD_some, tz, Option.bind_some]
  cases htz : (BM b z x.elem).1 with
  | true => simp only [cond_true, Nv hn l ⟨x.elem, o⟩ (by omega), Option.bind_some, if_true]
  | false => simp only [cond_false, Bool.false_eq_true, if_false]
end
end Go.E
/- Plain Lean: the flank of a road: what holds of zone, guards and holds; the search ends (laws FlankAgain, FlankApart). No condition. -/
namespace Go.E
open Go
section
variable {p : AO} {n : CX} {r : AU}
structure Vi (p : AO) (st : List A1) (z : List Int) : Prop where
 len : z.length <= 12
 nd : z.Nodup
 own : ∀ e ∈ z, e ∉ st.map (·.elem) /\ Ap p e ≠ 4
 rng : ∀ e ∈ z, Ap p e ≠ 0
structure ZU (p : AO) (st : List A1) (g : List AM) : Prop where
 ok : ∀ m ∈ g, m.elem ∉ st.map (·.elem) /\ Ap p m.elem = 2 /\ (m.pos = 1 \/ m.pos = 2)
 nd : g.Pairwise (fun a b => a.elem ≠ b.elem)
theorem Yw {st : List A1} {b : Bool} {z : List Int} {e : Int} (h : Vi p st z) (h1 : e ∉ st.map (·.elem)) (h2 : Ap p e ≠ 4) (h3 : Ap p e ≠ 0) : Vi p st (BM b z e).2.2 := by
 unfold BM
 split
 .exact h
 rename_i hm
 split
 .exact h
 rename_i hl
 refine ⟨by simp; omega, ?_, fun a ha => ?_, fun a ha => ?_⟩
 .simp only
  rw [List.nodup_append]
  exact ⟨h.nd, by simp, fun a ha c hc => by simp at hc; subst hc; intro e; subst e; exact hm ha⟩
 .rcases List.mem_append.1 ha with ha | ha
  .exact h.own a ha
  simp at ha; subst ha; exact ⟨h1, h2⟩
 rcases List.mem_append.1 ha with ha | ha
 .exact h.rng a ha
 simp at ha; subst ha; exact h3
theorem Iu {x y : AE} (h : A0 p x = some y) : y ∈ CS p := O3 h
theorem MD {l : List AE} {x y : AE} (h : y ∈ EC p l x) : y ∈ l \/ y ∈ CS p := by
 unfold EC at h
 cases hx : A0 p x with
 | none => rw [hx] at h; exact .inl h
 | some z =>
  rw [hx] at h
  rcases List.mem_append.1 h with h | h
  .exact .inl h
  simp at h; subst h; exact .inr (Iu hx)
structure FI (p : AO) (st : List A1) (M k : Nat) (vis : List (AE × Bool)) (g : List AM) (z h : List Int) (l : List AE) : Prop where
 zok : Vi p st z
 gok : ZU p st g
 hold : p.hard = true -> h = []
 port : ∀ x ∈ l, x ∈ CS p
 lg : g.length <= k
 lh : h.length <= k
 meas : k + l.length + 3 * HV p vis <= M
theorem Vj (hv : Ce p) {st : List A1} {nd : List AM} {M k : Nat} {b : Bool} {vis : List (AE × Bool)} {g : List AM} {z h : List Int} {l : List AE} {x : AE} (hi : FI p st M k vis g z h (l ++ [x])) {s : FS} (hs : s = K4 p st nd b vis g z h l x) :
  FI p st M (k + 1) s.2.1 s.2.2.1 s.2.2.2.1 s.2.2.2.2.1 s.2.2.2.2.2 := by
 have hm := hi.meas
 simp only [List.length_append, List.length_cons, List.length_nil] at hm
 have hx : x ∈ CS p := hi.port x (by simp)
 have hl : ∀ y ∈ l, y ∈ CS p := fun y hy => hi.port y (by simp [hy])
 have hlg := hi.lg
 have hlh := hi.lh
 have hul := Xk (p := p) (vis := vis) x
 have hhas : DJ p x = true := by
  obtain ⟨i, hi⟩ := List.mem_iff_getElem?.1 hx
  exact hv.join.has i x hi
 unfold K4 at hs
 by_cases c : x.elem ∈ st.map (·.elem) \/ Bk vis x = true
 .rw [if_pos c] at hs
  subst hs
  exact ⟨hi.zok, hi.gok, hi.hold, hl, by dsimp only; omega, by dsimp only; omega, by dsimp only; omega⟩
 rw [if_neg c] at hs
 have c1 : x.elem ∉ st.map (·.elem) := fun h => c (.inl h)
 have c2 : Bk vis x = false := by cases hs : Bk vis x with | false => rfl | true => exact absurd (.inr hs) c
 have hlt := UU hx c2
 by_cases k1 : 0 <= BD p x /\ p.hard = false
 .rw [if_pos k1] at hs
  subst hs
  refine ⟨hi.zok, hi.gok, fun hh => (by rw [k1.2] at hh; cases hh), hl, by dsimp only; omega, ?_, by dsimp only; omega⟩
  dsimp only
  split
  .omega
  simp; omega
 rw [if_neg k1] at hs
 by_cases k4 : Ap p x.elem = 4
 .rw [if_pos k4] at hs
  subst hs
  exact ⟨hi.zok, hi.gok, hi.hold, hl, by dsimp only; omega, by dsimp only; omega, by dsimp only; omega⟩
 rw [if_neg k4] at hs
 have k0 : Ap p x.elem ≠ 0 := fun e => by
  obtain ⟨f1, f2, f3⟩ := FM hhas
  rw [e] at f3
  simp [CW] at f3
  omega
 have hz := Yw (b := b) hi.zok c1 k4 k0
 have p1 : ∀ y, (EC p l y).length <= l.length + 1 := fun y => O7 l y
 by_cases k2 : Ap p x.elem = 2
 .rw [if_pos k2] at hs
  by_cases f0 : x.fin = 0
  .rw [if_pos f0] at hs
   subst hs
   refine ⟨hz, hi.gok, hi.hold, fun y hy => ?_, by dsimp only; omega, by dsimp only; omega, ?_⟩
   .dsimp only at hy
    split at hy
    .rcases MD hy with hy | hy
     .rcases MD hy with hy | hy
      .exact hl y hy
      exact hy
     exact hy
    exact hl y hy
   dsimp only
   have q1 := p1 ⟨x.elem, 2⟩
   have q2 := O7 (p := p) (EC p l ⟨x.elem, 2⟩) ⟨x.elem, 1⟩
   split <;> omega
  rw [if_neg f0] at hs
  by_cases a : (⟨x.elem, x.fin⟩ : AM) ∈ nd \/ (⟨x.elem, x.fin⟩ : AM) ∈ g
  .rw [if_pos a] at hs
   subst hs
   refine ⟨hz, hi.gok, hi.hold, fun y hy => ?_, by dsimp only; omega, by dsimp only; omega, ?_⟩
   .dsimp only at hy
    split at hy
    .rcases MD hy with hy | hy
     .exact hl y hy
     exact hy
    exact hl y hy
   dsimp only
   have q1 := p1 ⟨x.elem, 0⟩
   split <;> omega
  rw [if_neg a] at hs
  subst hs
  obtain ⟨f1, f2, f3⟩ := FM hhas
  rw [k2] at f3
  simp [CW] at f3
  have hw : Ae (3 - x.fin) = 3 - x.fin := by rw [CL] <;> omega
  refine ⟨hi.zok, ?_, hi.hold, hl, ?_, by dsimp only; omega, by dsimp only; omega⟩
  .dsimp only
   split
   .exact hi.gok
   rename_i hng
   refine ⟨fun m hm => ?_, ?_⟩
   .rcases List.mem_append.1 hm with hm | hm
    .exact hi.gok.ok m hm
    simp at hm; subst hm; exact ⟨c1, k2, by rw [hw]; simp only; omega⟩
   rw [List.pairwise_append]
   refine ⟨hi.gok.nd, by simp, fun m hm q hq => ?_⟩
   simp at hq
   subst hq
   intro he
   simp only at he
   obtain ⟨_, _, hp⟩ := hi.gok.ok m hm
   have e1 : m = ⟨x.elem, m.pos⟩ := by cases m; simp only at he; subst he; rfl
   by_cases e : m.pos = x.fin
   .rw [e] at e1; rw [e1] at hm; exact a (.inr hm)
   have : m.pos = 3 - x.fin := by omega
   rw [this, <- hw] at e1; rw [e1] at hm; exact hng hm
  dsimp only
  split
  .omega
  simp; omega
 rw [if_neg k2] at hs
 cases ht : BX p x.elem x.fin 0 with
 | none =>
  rw [ht] at hs
  subst hs
  exact ⟨hi.zok, hi.gok, hi.hold, hl, by dsimp only; omega, by dsimp only; omega, by dsimp only; omega⟩
 | some o =>
  rw [ht] at hs
  subst hs
  refine ⟨hz, hi.gok, hi.hold, fun y hy => ?_, by dsimp only; omega, by dsimp only; omega, ?_⟩
  .dsimp only at hy
   split at hy
   .rcases MD hy with hy | hy
    .exact hl y hy
    exact hy
   exact hl y hy
  dsimp only
  have q1 := p1 ⟨x.elem, o⟩
  split <;> omega
end
end Go.E
/- Plain Lean: zone, guards and holds of a road's flank (law FlankApart). No condition. -/
namespace Go.E
open Go
section
variable {p : AO} {n : CX} {r : AU}
end
end Go.E
/- Plain Lean: one call of the document's search for the flank, in a clean form. No condition. -/
namespace Go.E
open Go
theorem RR (l : List AM) (hl : l.length < 1000000) (x : AM) : EG l x = some (decide (x ∈ l)) := by
 unfold EG
 obtain ⟨b, h1, h2⟩ := Bm (l := l) (step := Dw l x) (Post := fun b => b = decide (x ∈ l)) (fun _ y => y ≠ x) (fun good => ⟨false, by simp [Dw], by
   symm; rw [decide_eq_false_iff_not]; intro hm
   obtain ⟨i, hi⟩ := List.getElem?_of_mem hm
   exact good i x hi rfl⟩) (fun i a ha _ => by
   have := BY ha
   by_cases e : a = x
   .exact .inl ⟨true, by simp only [Dw, BS ha, cond_true, Af, ha, Option.bind_some, e, beq_self_eq_true], by symm; rw [decide_eq_true_iff]; subst e; exact List.mem_of_getElem? ha⟩
   have : (a == x) = false := beq_eq_false_iff_ne.2 e
   exact .inr ⟨by simp only [Dw, BS ha, cond_true, Af, ha, Option.bind_some, this, cond_false, AT (show i < 1000000000 by omega)], e⟩)
 rw [h1, h2]
section
variable {p : AO} {n : CX} {r : AU}
def FN (p : AO) (r : AU) (g : List AM) (z h : List Int) (b : Bool) (met : List AE) : Ai := ⟨p, ⟨r.frm, r.to, r.fin, r.steps, r.needs, g, z, h, b⟩, met⟩
def RS (p : AO) (rc : Ai × AE -> Option Ai) (S : Ai) (y : AE) : Option Ai := match A0 p y with
 | some q => rc (S, q)
 | none => some S
theorem Xm (b : Bool) (z : List Int) (e : Int) (hz : z.length <= 1000) : ((C1 z e).bind fun y => bif y then some (true, b, z) else bif decide (12 <= (z.length : Int)) then some (false, true, z) else (A7 z [e]).bind fun y' => some (true, b, y') : Option (Bool × Bool × List Int)) = some (BM b z e) := by
 rw [J8 z (by omega)]
 unfold BM
 simp only [Option.bind_some]
 by_cases c : e ∈ z
 .rw [decide_eq_true c, if_pos c]; rfl
 rw [decide_eq_false c, if_neg c]
 by_cases d : 12 <= z.length
 .rw [if_pos d, decide_eq_true (show (12 : Int) <= (z.length : Int) by omega)]; rfl
 rw [if_neg d, decide_eq_false (show ¬ (12 : Int) <= (z.length : Int) by omega)]
 simp only [cond_false, A2 (show z.length + [e].length <= 4294967296 by simp; omega), Option.bind_some]
def TP (p : AO) (r : AU) (rc : Ai × AE -> Option Ai) (g : List AM) (z h : List Int) (b : Bool) (met : List AE) (x : AE) : Option Ai :=
 if x.elem ∈ r.steps.map (·.elem) \/ x ∈ met then some (FN p r g z h b met)
 else if 0 <= BD p x /\ p.hard = false then some (FN p r g z (if BD p x ∈ h then h else h ++ [BD p x]) b (met ++ [x]))
 else if Ap p x.elem = 4 then some (FN p r g z h true (met ++ [x]))
 else if Ap p x.elem = 2 then
  if x.fin = 0 then
   if (BM b z x.elem).1 then (RS p rc (FN p r g (BM b z x.elem).2.2 h (BM b z x.elem).2.1 (met ++ [x])) ⟨x.elem, 1⟩).bind fun S => RS p rc S ⟨x.elem, 2⟩
   else some (FN p r g (BM b z x.elem).2.2 h (BM b z x.elem).2.1 (met ++ [x]))
  else if ⟨x.elem, x.fin⟩ ∈ r.needs \/ ⟨x.elem, x.fin⟩ ∈ g then
   if (BM b z x.elem).1 then RS p rc (FN p r g (BM b z x.elem).2.2 h (BM b z x.elem).2.1 (met ++ [x])) ⟨x.elem, 0⟩
   else some (FN p r g (BM b z x.elem).2.2 h (BM b z x.elem).2.1 (met ++ [x]))
  else some (FN p r (if ⟨x.elem, Ae (3 - x.fin)⟩ ∈ g then g else g ++ [⟨x.elem, Ae (3 - x.fin)⟩]) z h b (met ++ [x]))
 else if (BM b z x.elem).1 then RS p rc (FN p r g (BM b z x.elem).2.2 h (BM b z x.elem).2.1 (met ++ [x])) ⟨x.elem, (BX p x.elem x.fin 0).getD 0⟩
 else some (FN p r g (BM b z x.elem).2.2 h (BM b z x.elem).2.1 (met ++ [x]))
theorem Xn (hv : Ce p) (h1 : r.steps.length <= 12) (h2 : r.needs.length <= 1000) (rc : Ai × AE -> Option Ai) (g : List AM) (z h : List Int) (b : Bool) (met : List AE) (x : AE) (hrc : ¬ (x.elem ∈ r.steps.map (·.elem) \/ x ∈ met) -> ∀ q S', A0 p ⟨x.elem, 1⟩ = some q -> rc (FN p r g (BM b z x.elem).2.2 h (BM b z x.elem).2.1 (met ++ [x]), q) = some S' -> S'.p = p) (hg : g.length <= 1000) (hz : z.length <= 1000) (hh : h.length <= 1000) (hm : met.length <= 1000) :
  CY rc (FN p r g z h b met) x = TP p r rc g z h b met x := by
 have hj := hv.nj
 have hns := hv.ns
 have own := Z7 (⟨r.frm, r.to, r.fin, r.steps, r.needs, g, z, h, b⟩ : AU) (show r.steps.length < 1000000 by omega) x.elem
 have tz := Xm b z x.elem hz
 have hmet := A2 (l := met) (m := [x]) (by simp; omega)
 unfold CY TP FN
 simp only [own, Wg met (show met.length < 1000000 by omega), Option.bind_some]
 have e1 : (bif decide (x.elem ∈ r.steps.map (·.elem)) then some true else some (decide (x ∈ met)) : Option Bool) = some (decide (x.elem ∈ r.steps.map (·.elem) \/ x ∈ met)) := by
  by_cases a : x.elem ∈ r.steps.map (·.elem)
  .rw [decide_eq_true a]; simp [a]
  rw [decide_eq_false a]; simp [a]
 simp only [e1, Option.bind_some]
 by_cases c : x.elem ∈ r.steps.map (·.elem) \/ x ∈ met
 .rw [if_pos c, decide_eq_true c]; rfl
 rw [if_neg c, decide_eq_false c]
 simp only [cond_false, hmet, Option.bind_some, IS p (show p.signals.length < 1000000 by omega)]
 by_cases k1 : 0 <= BD p x /\ p.hard = false
 .rw [if_pos k1, decide_eq_true k1.1, k1.2]
  simp only [cond_true, Bool.not_false, Option.bind_some, J8 h (show h.length < 1000000 by omega)]
  by_cases m : BD p x ∈ h
  .rw [decide_eq_true m, if_pos m]; rfl
  rw [decide_eq_false m, if_neg m]
  simp only [Bool.not_false, cond_true, A2 (show h.length + [BD p x].length <= 4294967296 by simp; omega), Option.bind_some]
 rw [if_neg k1]
 have eb : (bif decide (0 <= BD p x) then some (!p.hard) else some false : Option Bool) = some false := by
  by_cases a : 0 <= BD p x
  .rw [decide_eq_true a]
   cases hp : p.hard with
   | true => rfl
   | false => exact absurd ⟨a, hp⟩ k1
  rw [decide_eq_false a]; rfl
 simp only [eb, Option.bind_some, cond_false, Lg]
 by_cases k4 : Ap p x.elem = 4
 .rw [if_pos k4, k4]; rfl
 rw [if_neg k4]
 have b4 : (Ap p x.elem == 4) = false := beq_eq_false_iff_ne.2 k4
 simp only [b4, cond_false, tz, Option.bind_some, Cv p (show p.joins.length < 1000000 by omega), Wh]
 by_cases k2 : Ap p x.elem = 2
 .rw [if_pos k2, k2]
  simp only [beq_self_eq_true, cond_true]
  by_cases f0 : x.fin = 0
  .rw [if_pos f0]
   have bf : (x.fin == 0) = true := by simp [f0]
   simp only [bf, cond_true, tz, Option.bind_some]
   cases ht : (BM b z x.elem).1 with
   | false => simp only [cond_false, Option.bind_some, Bool.false_eq_true, if_false]
   | true =>
    simp only [cond_true, if_true]
    unfold RS
    cases hy : A0 p ⟨x.elem, 1⟩ with
    | none =>
     simp only [Option.isSome_none, cond_false, Option.bind_some, Cv p (show p.joins.length < 1000000 by omega)]
     cases hy2 : A0 p ⟨x.elem, 2⟩ with
     | none => rfl
     | some q2 =>
      simp only [Option.isSome_some, cond_true, Option.getD_some]
      cases hr2 : rc (⟨p, ⟨r.frm, r.to, r.fin, r.steps, r.needs, g, (BM b z x.elem).2.2, h, (BM b z x.elem).2.1⟩, met ++ [x]⟩, q2) with
      | none => simp only [hr2, Option.bind_none]
      | some S => simp only [hr2, Option.bind_some]
    | some q =>
     simp only [Option.isSome_some, cond_true, Option.getD_some]
     cases hr : rc (⟨p, ⟨r.frm, r.to, r.fin, r.steps, r.needs, g, (BM b z x.elem).2.2, h, (BM b z x.elem).2.1⟩, met ++ [x]⟩, q) with
     | none => rfl
     | some S =>
      obtain ⟨Sp, Sr, Sm⟩ := S
      have hp := hrc c _ _ hy hr
      simp only at hp
      subst hp
      simp only [Option.bind_some, Cv Sp (show Sp.joins.length < 1000000 by omega)]
      cases hy2 : A0 Sp ⟨x.elem, 2⟩ with
      | none => rfl
      | some q2 =>
       simp only [Option.isSome_some, cond_true, Option.getD_some, Option.bind_some]
       cases hr2 : rc (⟨Sp, Sr, Sm⟩, q2) with
       | none => simp only [hr2, Option.bind_none]
       | some S => simp only [hr2, Option.bind_some]
  rw [if_neg f0]
  have bf : (x.fin == 0) = false := beq_eq_false_iff_ne.2 f0
  simp only [bf, cond_false, RR r.needs (show r.needs.length < 1000000 by omega), RR g (show g.length < 1000000 by omega), Option.bind_some]
  have en : (bif !decide ((⟨x.elem, x.fin⟩ : AM) ∈ r.needs) then some (!decide ((⟨x.elem, x.fin⟩ : AM) ∈ g)) else some false : Option Bool) = some (decide (¬ ((⟨x.elem, x.fin⟩ : AM) ∈ r.needs \/ (⟨x.elem, x.fin⟩ : AM) ∈ g))) := by
   by_cases a : (⟨x.elem, x.fin⟩ : AM) ∈ r.needs
   .simp [a]
   by_cases a2 : (⟨x.elem, x.fin⟩ : AM) ∈ g <;> simp [a, a2]
  simp only [en, Option.bind_some]
  by_cases a : (⟨x.elem, x.fin⟩ : AM) ∈ r.needs \/ (⟨x.elem, x.fin⟩ : AM) ∈ g
  .rw [if_pos a, decide_eq_false (show ¬ ¬ _ from fun hn => hn a)]
   simp only [cond_false, tz, Option.bind_some]
   cases ht : (BM b z x.elem).1 with
   | false => simp only [cond_false, Option.bind_some, Bool.false_eq_true, if_false]
   | true =>
    simp only [cond_true, if_true]
    unfold RS
    cases hy : A0 p ⟨x.elem, 0⟩ with
    | none => rfl
    | some q =>
     simp only [Option.isSome_some, cond_true, Option.getD_some]
     cases hr : rc (⟨p, ⟨r.frm, r.to, r.fin, r.steps, r.needs, g, (BM b z x.elem).2.2, h, (BM b z x.elem).2.1⟩, met ++ [x]⟩, q) with
     | none => rfl
     | some S => rfl
  rw [if_neg a, decide_eq_true a]
  simp only [cond_true]
  by_cases m : (⟨x.elem, Ae (3 - x.fin)⟩ : AM) ∈ g
  .rw [decide_eq_true m, if_pos m]; rfl
  rw [decide_eq_false m, if_neg m]
  simp only [Bool.not_false, cond_true, A2 (show g.length + [(⟨x.elem, Ae (3 - x.fin)⟩ : AM)].length <= 4294967296 by simp; omega), Option.bind_some]
 rw [if_neg k2]
 have b2 : (Ap p x.elem == 2) = false := beq_eq_false_iff_ne.2 k2
 simp only [b2, cond_false]
 cases ht : (BM b z x.elem).1 with
 | false => simp only [cond_false, Bool.false_eq_true, if_false]
 | true =>
  simp only [cond_true, if_true]
  unfold RS
  cases hy : A0 p ⟨x.elem, (BX p x.elem x.fin 0).getD 0⟩ with
  | none => rfl
  | some q =>
   simp only [Option.isSome_some, cond_true, Option.getD_some]
   cases hr : rc (⟨p, ⟨r.frm, r.to, r.fin, r.steps, r.needs, g, (BM b z x.elem).2.2, h, (BM b z x.elem).2.1⟩, met ++ [x]⟩, q) with
   | none => rfl
   | some S => rfl
end
end Go.E
/- Plain Lean: the document's search for the flank and the program's loop: one call is as good as one port on the stack. No condition. -/
namespace Go.E
open Go
section
variable {p : AO} {n : CX} {r : AU}
noncomputable def Nw (m : Nat) : Ai × AE -> Option Ai := Ot (fun (rc : (Ai × AE) -> Option Ai) (a : (Ai × AE)) => CY rc a.1 a.2) m
structure CI (p : AO) (vis : List (AE × Bool)) (g : List AM) (z h : List Int) (met : List AE) : Prop where
 mt : ∀ y, y ∈ met ↔ Bk vis y = true
 lz : z.length <= 12
 lg : g.length + HV p vis <= 500
 lh : h.length + HV p vis <= 500
 lm : met.length + HV p vis <= 500
theorem Su {b : Bool} {z : List Int} {e : Int} (h : z.length <= 12) : (BM b z e).2.2.length <= 12 := by
 unfold BM
 split
 .exact h
 split
 .exact h
 simp; omega
theorem CI.mark {vis : List (AE × Bool)} {g g' : List AM} {z z' h h' : List Int} {met : List AE} {x : AE} (hi : CI p vis g z h met) (hx : x ∈ CS p) (hv : Bk vis x = false) (hz : z'.length <= 12) (hg : g'.length <= g.length + 1) (hh : h'.length <= h.length + 1) : CI p (A5 x true vis) g' z' h' (met ++ [x]) := by
 have hlt := UU hx hv
 have h1 := hi.lg; have h2 := hi.lh; have h3 := hi.lm
 refine ⟨fun y => ?_, hz, by omega, by omega, by simp; omega⟩
 rw [List.mem_append, hi.mt, GK]
 simp only [List.mem_singleton]
 exact Or.comm
def Yx (p : AO) (n : CX) (r : AU) (m : Nat) (b : Bool) (vis : List (AE × Bool)) (g : List AM) (z h : List Int) (met : List AE) (x : AE) : Prop :=
 ∃ b' vis' g' z' h' met', Nw m (FN p r g z h b met, x) = some (FN p r g' z' h' b' met') /\ CI p vis' g' z' h' met' /\ HV p vis' <= HV p vis /\
  ∀ l k, FI p r.steps 700 k vis g z h (l ++ [x]) -> ∃ k', AP (CG n r r.steps r.needs p) (b, vis, g, z, h, l ++ [x]) = AP (CG n r r.steps r.needs p) (b', vis', g', z', h', l) /\ FI p r.steps 700 k' vis' g' z' h' l
theorem ME {m : Nat} (ih : ∀ b vis g z h met x, HV p vis < m -> x ∈ CS p -> CI p vis g z h met -> Yx p n r m b vis g z h met x) {b : Bool} {vis : List (AE × Bool)} {g : List AM} {z h : List Int} {met : List AE} (y : AE) (hu : HV p vis < m) (hi : CI p vis g z h met) :
  ∃ b' vis' g' z' h' met', RS p (Nw m) (FN p r g z h b met) y = some (FN p r g' z' h' b' met') /\ CI p vis' g' z' h' met' /\ HV p vis' <= HV p vis /\
   ∀ l k, FI p r.steps 700 k vis g z h (EC p l y) -> ∃ k', AP (CG n r r.steps r.needs p) (b, vis, g, z, h, EC p l y) = AP (CG n r r.steps r.needs p) (b', vis', g', z', h', l) /\ FI p r.steps 700 k' vis' g' z' h' l := by
 unfold RS EC
 cases hy : A0 p y with
 | none => exact ⟨b, vis, g, z, h, met, rfl, hi, Nat.le_refl _, fun l k hf => ⟨k, rfl, hf⟩⟩
 | some q => exact ih b vis g z h met q hu (Iu hy) hi
theorem UV {x : AE} (h : DJ p x = true) (k2 : Ap p x.elem ≠ 2) (k4 : Ap p x.elem ≠ 4) : ∃ o, BX p x.elem x.fin 0 = some o := by
 obtain ⟨f1, f2, f3⟩ := FM h
 have h' : DJ p ⟨x.elem, x.fin⟩ = true := h
 unfold BX CR
 rw [h']
 simp only [if_true]
 by_cases k1 : Ap p x.elem = 1
 .rw [if_pos k1]; exact ⟨_, by simp [Ck]; rfl⟩
 by_cases k3 : Ap p x.elem = 3
 .rw [if_neg k1, if_pos k3]; exact ⟨_, by simp [Ck]; rfl⟩
 have : CW (Ap p x.elem) = 0 := by unfold CW; rw [if_neg k1, if_neg k2, if_neg k3, if_neg k4]
 omega
theorem Z9 (hv : Ce p) (hn : DG p n) (h1 : r.steps.length <= 12) (h2 : r.needs.length <= 1000) : ∀ (m : Nat) (b : Bool) (vis : List (AE × Bool)) (g : List AM) (z h : List Int) (met : List AE) (x : AE), HV p vis < m -> x ∈ CS p -> CI p vis g z h met -> Yx p n r m b vis g z h met x := by
 intro m
 induction m with
 | zero => intro b vis g z h met x hu; omega
 | succ m ih =>
  intro b vis g z h met x hu hx hi
  have lz := hi.lz; have lg := hi.lg; have lh := hi.lh; have lm := hi.lm
  have hhas : DJ p x = true := by
   obtain ⟨i, hi⟩ := List.mem_iff_getElem?.1 hx
   exact hv.join.has i x hi
  have hdec : ¬ (x.elem ∈ r.steps.map (·.elem) \/ x ∈ met) -> Bk vis x = false /\ HV p (A5 x true vis) < m := fun c => by
   have : Bk vis x = false := by
    cases hs : Bk vis x with
    | false => rfl
    | true => exact absurd (.inr ((hi.mt x).2 hs)) c
   have := UU hx this
   exact ⟨by assumption, by omega⟩
  have hcs : Nw (m + 1) (FN p r g z h b met, x) = TP p r (Nw m) g z h b met x := by
   show CY (Nw m) (FN p r g z h b met) x = _
   refine Xn hv h1 h2 (Nw m) g z h b met x (fun c q S' hq hS => ?_) (by omega) (by omega) (by omega) (by omega)
   obtain ⟨hs, hu'⟩ := hdec c
   obtain ⟨b', vis', g', z', h', met', e, _⟩ := ih (BM b z x.elem).2.1 (A5 x true vis) g (BM b z x.elem).2.2 h (met ++ [x]) q hu' (Iu hq) (hi.mark hx hs (Su lz) (by omega) (by omega))
   rw [e] at hS; cases hS; rfl
  unfold Yx
  rw [hcs]
  have round : ∀ l k, FI p r.steps 700 k vis g z h (l ++ [x]) -> ∀ s, s = K4 p r.steps r.needs b vis g z h l x -> AP (CG n r r.steps r.needs p) (b, vis, g, z, h, l ++ [x]) = AP (CG n r r.steps r.needs p) s /\ FI p r.steps 700 (k + 1) s.2.1 s.2.2.1 s.2.2.2.1 s.2.2.2.2.1 s.2.2.2.2.2 := fun l k hf s hs => by
   have hm := hf.meas
   simp only [List.length_append, List.length_cons, List.length_nil] at hm
   refine ⟨B2 ?_, Vj hv hf hs⟩
   rw [hs]
   exact RQ hn h1 h2 b vis g z h l x (by omega) (by omega) (by omega) (by omega)
  unfold TP
  by_cases c : x.elem ∈ r.steps.map (·.elem) \/ x ∈ met
  .rw [if_pos c]
   refine ⟨b, vis, g, z, h, met, rfl, hi, Nat.le_refl _, fun l k hf => ⟨k + 1, ?_⟩⟩
   have := round l k hf _ rfl
   unfold K4 at this
   rw [if_pos (by rw [<- hi.mt]; exact c)] at this
   exact this
  rw [if_neg c]
  obtain ⟨hs, hu'⟩ := hdec c
  have hul := Xk (p := p) (vis := vis) x
  have c' : ¬ (x.elem ∈ r.steps.map (·.elem) \/ Bk vis x = true) := by rw [<- hi.mt]; exact c
  unfold K4 at round
  simp only [if_neg c'] at round
  by_cases k1 : 0 <= BD p x /\ p.hard = false
  .rw [if_pos k1]
   simp only [if_pos k1] at round
   refine ⟨b, A5 x true vis, g, z, _, met ++ [x], rfl, hi.mark hx hs lz (by omega) (by split <;> simp), hul, fun l k hf => ⟨k + 1, round l k hf _ rfl⟩⟩
  rw [if_neg k1]
  simp only [if_neg k1] at round
  by_cases k4 : Ap p x.elem = 4
  .rw [if_pos k4]
   simp only [if_pos k4] at round
   exact ⟨true, A5 x true vis, g, z, h, met ++ [x], rfl, hi.mark hx hs lz (by omega) (by omega), hul, fun l k hf => ⟨k + 1, round l k hf _ rfl⟩⟩
  rw [if_neg k4]
  simp only [if_neg k4] at round
  have hc2 := hi.mark (g' := g) (z' := (BM b z x.elem).2.2) (h' := h) hx hs (Su lz) (by omega) (by omega)
  have stay : ¬ (BM b z x.elem).1 = true -> ∀ (P : Prop), True := fun _ _ => trivial
  by_cases k2 : Ap p x.elem = 2
  .rw [if_pos k2]
   simp only [if_pos k2] at round
   by_cases f0 : x.fin = 0
   .rw [if_pos f0]
    simp only [if_pos f0] at round
    by_cases t1 : (BM b z x.elem).1 = true
    .rw [if_pos t1]
     simp only [if_pos t1] at round
     obtain ⟨b1, v1, g1, z1, q1, m1, e1, i1, u1, s1⟩ := ME ih (b := (BM b z x.elem).2.1) ⟨x.elem, 1⟩ hu' hc2
     obtain ⟨b2, v2, g2, z2, q2, m2, e2, i2, u2, s2⟩ := ME ih (b := b1) (vis := v1) ⟨x.elem, 2⟩ (by omega) i1
     refine ⟨b2, v2, g2, z2, q2, m2, by rw [e1]; exact e2, i2, by omega, fun l k hf => ?_⟩
     obtain ⟨r1, r2⟩ := round l k hf _ rfl
     obtain ⟨k3, r3, r4⟩ := s1 _ _ r2
     obtain ⟨k5, r5, r6⟩ := s2 _ _ r4
     exact ⟨k5, r1.trans (r3.trans r5), r6⟩
    rw [if_neg t1]
    simp only [if_neg t1] at round
    exact ⟨_, A5 x true vis, g, _, h, met ++ [x], rfl, hc2, hul, fun l k hf => ⟨k + 1, round l k hf _ rfl⟩⟩
   rw [if_neg f0]
   simp only [if_neg f0] at round
   by_cases a : (⟨x.elem, x.fin⟩ : AM) ∈ r.needs \/ (⟨x.elem, x.fin⟩ : AM) ∈ g
   .rw [if_pos a]
    simp only [if_pos a] at round
    by_cases t1 : (BM b z x.elem).1 = true
    .rw [if_pos t1]
     simp only [if_pos t1] at round
     obtain ⟨b1, v1, g1, z1, q1, m1, e1, i1, u1, s1⟩ := ME ih (b := (BM b z x.elem).2.1) ⟨x.elem, 0⟩ hu' hc2
     refine ⟨b1, v1, g1, z1, q1, m1, e1, i1, by omega, fun l k hf => ?_⟩
     obtain ⟨r1, r2⟩ := round l k hf _ rfl
     obtain ⟨k3, r3, r4⟩ := s1 _ _ r2
     exact ⟨k3, r1.trans r3, r4⟩
    rw [if_neg t1]
    simp only [if_neg t1] at round
    exact ⟨_, A5 x true vis, g, _, h, met ++ [x], rfl, hc2, hul, fun l k hf => ⟨k + 1, round l k hf _ rfl⟩⟩
   rw [if_neg a]
   simp only [if_neg a] at round
   exact ⟨b, A5 x true vis, _, z, h, met ++ [x], rfl, hi.mark hx hs lz (by split <;> simp) (by omega), hul, fun l k hf => ⟨k + 1, round l k hf _ rfl⟩⟩
  rw [if_neg k2]
  simp only [if_neg k2] at round
  obtain ⟨o, ho⟩ : ∃ o, BX p x.elem x.fin 0 = some o := UV hhas k2 k4
  simp only [ho] at round
  rw [ho, Option.getD_some]
  by_cases t1 : (BM b z x.elem).1 = true
  .rw [if_pos t1]
   simp only [if_pos t1] at round
   obtain ⟨b1, v1, g1, z1, q1, m1, e1, i1, u1, s1⟩ := ME ih (b := (BM b z x.elem).2.1) ⟨x.elem, o⟩ hu' hc2
   refine ⟨b1, v1, g1, z1, q1, m1, e1, i1, by omega, fun l k hf => ?_⟩
   obtain ⟨r1, r2⟩ := round l k hf _ rfl
   obtain ⟨k3, r3, r4⟩ := s1 _ _ r2
   exact ⟨k3, r1.trans r3, r4⟩
  rw [if_neg t1]
  simp only [if_neg t1] at round
  exact ⟨_, A5 x true vis, g, _, h, met ++ [x], rfl, hc2, hul, fun l k hf => ⟨k + 1, round l k hf _ rfl⟩⟩
end
end Go.E
/- Plain Lean: the flank of a road: the document's answer and the program's are one (law FlankOfs). No condition. -/
namespace Go.E
open Go
section
variable {p : AO} {n : CX} {r : AU}
theorem AAA (hv : Ce p) (g : List AM) (z h : List Int) (b : Bool) (met : List AE) {x y : AE} (hy : A0 p x = some y) {g' : List AM} {z' h' : List Int} {b' : Bool} {met' : List AE} (hc : Nw 1000 (FN p r g z h b met, y) = some (FN p r g' z' h' b' met')) :
  JJ (FN p r g z h b met) x.elem x.fin = some (FN p r g' z' h' b' met') := by
 have hj := hv.nj
 show C7 (Ot (fun (rc : (Ai × Int × Int) -> Option Ai) (a : (Ai × Int × Int)) => C7 rc a.1 a.2.1 a.2.2) 999) (FN p r g z h b met) x.elem x.fin = _
 have hc' : Hp (FN p r g z h b met) y = some (FN p r g' z' h' b' met') := hc
 unfold C7 FN at *
 simp only [Cv p (show p.joins.length < 1000000 by omega), hy, Option.bind_some, Option.isSome_some, cond_true, Option.getD_some, hc']
def flT (p : AO) (r : AU) (i : Int) (g : List AM) (z h : List Int) (b : Bool) (met : List AE) : Int × (List By) × (List Bx) × (List BI) × (List CN) × Int × Int × Int × Int × Bool × Int × Int × Int × (List A1) × (List AM) × Bool × (List AM) × (List Int) × (List Int) × (List AE) :=
 (i, p.elems, p.joins, p.signals, p.lines, p.top, p.brake, p.margin, p.throw, p.hard, r.frm, r.to, r.fin, r.steps, r.needs, b, g, z, h, met)
theorem Wj (hv : Ce p) (hn : DG p n) (h1 : r.steps.length <= 12) (h2 : r.needs.length <= 1000) (L : List AE) (hL : L.length <= 24) (hLj : ∀ x ∈ L, ∃ y, A0 p x = some y) : ∀ (rest : List AE) (i : Nat) (b : Bool) (vis : List (AE × Bool)) (g : List AM) (z h : List Int) (met : List AE) (k : Nat), L.drop i = rest -> i <= L.length -> CI p vis g z h met -> FI p r.steps 700 k vis g z h (Ek p rest).reverse ->
  ∃ R, AP (Fi L) (flT p r (i : Int) g z h b met) = some R /\ AP (CG n r r.steps r.needs p) (b, vis, g, z, h, (Ek p rest).reverse) = some R := by
 have hj := hv.nj
 intro rest
 induction rest with
 | nil =>
  intro i b vis g z h met k hd hi hc hf
  have : i = L.length := by have := congrArg List.length hd; simp at this; omega
  subst this
  refine ⟨⟨r.frm, r.to, r.fin, r.steps, r.needs, g, z, h, b⟩, B7 ?_, B7 rfl⟩
  simp [Fi, flT]
 | cons x rest ih =>
  intro i b vis g z h met k hd hi hc hf
  have hlt : i < L.length := by have := congrArg List.length hd; simp at this; omega
  have hx : L[i]? = some x := by
   have : (L.drop i)[0]? = some x := by rw [hd]; rfl
   simpa using this
  have hr : L.drop (i + 1) = rest := by
   have : (L.drop i).drop 1 = rest := by rw [hd]; rfl
   rwa [List.drop_drop] at this
  obtain ⟨y, hy⟩ := hLj x (List.mem_of_getElem? hx)
  have hq : (Ek p (x :: rest)).reverse = (Ek p rest).reverse ++ [y] := by unfold Ek; simp [hy]
  have hu : HV p vis < 1000 := by
   have h3 : HV p vis <= (CS p).length := List.length_filter_le _ _
   have h4 : (CS p).length = 2 * p.joins.length := HU _
   omega
  obtain ⟨b', vis', g', z', h', met', e1, i1, u1, s1⟩ := Z9 hv hn h1 h2 1000 b vis g z h met y hu (Iu hy) hc
  rw [hq] at hf ⊢
  obtain ⟨k', e2, f2⟩ := s1 _ _ hf
  obtain ⟨R, e3, e4⟩ := ih (i + 1) b' vis' g' z' h' met' k' hr (by omega) i1 f2
  refine ⟨R, ?_, by rw [e2, e4]⟩
  rw [<- e3]
  refine B2 ?_
  have hon := AAA (r := r) hv g z h b met hy e1
  unfold FN at hon
  simp only [Fi, flT, BS hx, cond_true, Af, hx, Option.bind_some]
  rw [hon]
  simp only [Option.bind_some, AT (show i < 1000000000 by omega)]
  simp only [Int.ofNat_lt, hlt, decide_true, cond_true]
theorem Yy (hv : Ce p) (hn : DG p n) (h1 : r.steps.length <= 12) (h2 : r.needs.length <= 1000) : ∃ R, Gi p r = some R /\ Hi n r = some R := by
 have hj := hv.nj
 have hp := Ns (p := p) r.steps
 rw [Pp hv hn h1 h2]
 unfold Gi
 simp only [A2 (show ([] : List A1).length + r.steps.length <= 4294967296 by simp; omega), A2 (show ([] : List AM).length + r.needs.length <= 4294967296 by simp; omega), List.nil_append, Option.bind_some, Xi hv r (show r.steps.length <= 1000 by omega)]
 have h3 : HV p [] <= (CS p).length := List.length_filter_le _ _
 have h4 : (CS p).length = 2 * p.joins.length := HU _
 refine Wj hv hn h1 h2 (D7 p r.steps) (by omega) (fun x hx => Li hx) (D7 p r.steps) 0 false [] [] [] [] [] 0 rfl (Nat.zero_le _) ⟨fun y => by simp [Bk, AZ], by simp, by simp; omega, by simp; omega, by simp; omega⟩ ⟨⟨by simp, by simp, by simp, by simp⟩, ⟨by simp, by simp⟩, fun _ => rfl, fun y hy => ?_, by simp, by simp, ?_⟩
 .have := List.mem_reverse.1 hy
  obtain ⟨x, hx, rfl⟩ := List.mem_map.1 this
  obtain ⟨y, hy⟩ := Li hx
  rw [hy]
  exact Iu hy
 simp only [Ek, List.length_reverse, List.length_map]
 omega
end
end Go.E
/- Plain Lean: whether a road is ready, by the program and by the document (law FlankReady). No condition. -/
namespace Go.E
open Go
end Go.E
/- Plain Lean: a road that is ready is so no more when one thing is otherwise (law FlankOne). No condition. -/
namespace Go.E
open Go
section
variable {p : AO} {n : CX} {r : AU}
theorem QF {n : Int} {k : Nat} (h0 : 0 <= n) (hk : 0 < k) : ∃ j : Nat, j < k /\ MP n (k : Int) = some (j : Int) := by
 obtain ⟨m, rfl⟩ := Int.eq_ofNat_of_zero_le h0
 refine ⟨m % k, Nat.mod_lt _ hk, ?_⟩
 unfold MP
 rw [if_neg (by omega)]
 rfl
end
end Go.E
/- Plain Lean: what a road's flank keeps: nobody comes in but from its zone (law FlankKeeps). No condition. -/
namespace Go.E
open Go
section
variable {p : AO} {n : CX} {r : AU}
def Xo (st : List A1) (vis : List (AE × Bool)) (l : List AE) (y : AE) : Prop := y ∈ l \/ Bk vis y = true \/ y.elem ∈ st.map (·.elem)
structure UW (p : AO) (nd g : List AM) (z h : List Int) (at_ : AE -> Prop) (x : AE) : Prop where
 held : 0 <= BD p x /\ p.hard = false -> BD p x ∈ h
 gate : ¬ (0 <= BD p x /\ p.hard = false) -> Ap p x.elem ≠ 4
 toe : ¬ (0 <= BD p x /\ p.hard = false) -> Ap p x.elem = 2 -> x.fin = 0 -> x.elem ∈ z /\ ∀ o, (o = 1 \/ o = 2) -> ∀ y, A0 p ⟨x.elem, o⟩ = some y -> at_ y
 leg : ¬ (0 <= BD p x /\ p.hard = false) -> Ap p x.elem = 2 -> x.fin ≠ 0 -> (x.elem ∈ z /\ ∀ y, A0 p ⟨x.elem, 0⟩ = some y -> at_ y) \/ (⟨x.elem, Ae (3 - x.fin)⟩ : AM) ∈ g
 other : ¬ (0 <= BD p x /\ p.hard = false) -> Ap p x.elem ≠ 2 -> ∀ o, BX p x.elem x.fin 0 = some o -> x.elem ∈ z /\ ∀ y, A0 p ⟨x.elem, o⟩ = some y -> at_ y
theorem UW.mono {nd g g' : List AM} {z z' h h' : List Int} {a a' : AE -> Prop} {x : AE} (hk : UW p nd g z h a x) (hg : ∀ m ∈ g, m ∈ g') (hz : ∀ m ∈ z, m ∈ z') (hh : ∀ m ∈ h, m ∈ h') (ha : ∀ y, a y -> a' y) : UW p nd g' z' h' a' x :=
 ⟨fun c => hh _ (hk.held c), hk.gate, fun c k f => ⟨hz _ (hk.toe c k f).1, fun o ho y hy => ha _ ((hk.toe c k f).2 o ho y hy)⟩,
  fun c k f => (hk.leg c k f).imp (fun q => ⟨hz _ q.1, fun y hy => ha _ (q.2 y hy)⟩) (hg _), fun c k o ho => ⟨hz _ (hk.other c k o ho).1, fun y hy => ha _ ((hk.other c k o ho).2 y hy)⟩⟩
structure KI (p : AO) (st : List A1) (nd : List AM) (b : Bool) (vis : List (AE × Bool)) (g : List AM) (z h : List Int) (l : List AE) : Prop where
 seen : b = false -> ∀ x, Bk vis x = true -> UW p nd g z h (Xo st vis l) x
 init : ∀ x y, x ∈ D7 p st -> A0 p x = some y -> Xo st vis l y
theorem KI.next {st : List A1} {nd : List AM} {b b' : Bool} {vis vis' : List (AE × Bool)} {g g' : List AM} {z z' h h' : List Int} {l l' : List AE} {x : AE} (hi : KI p st nd b vis g z h (l ++ [x]))
  (hb : b' = false -> b = false) (hv : ∀ y, Bk vis y = true -> Bk vis' y = true) (hv2 : ∀ y, Bk vis' y = true -> Bk vis y = true \/ y = x) (hl : ∀ y ∈ l, y ∈ l') (hx : Bk vis' x = true \/ x.elem ∈ st.map (·.elem))
  (hg : ∀ m ∈ g, m ∈ g') (hz : ∀ m ∈ z, m ∈ z') (hh : ∀ m ∈ h, m ∈ h') (hr : b' = false -> Bk vis x = false -> Bk vis' x = true -> UW p nd g' z' h' (Xo st vis' l') x) : KI p st nd b' vis' g' z' h' l' := by
 have ha : ∀ y, Xo st vis (l ++ [x]) y -> Xo st vis' l' y := by
  rintro y (hy | hy | hy)
  .rcases List.mem_append.1 hy with hy | hy
   .exact .inl (hl y hy)
   simp at hy; subst hy; exact .inr hx
  .exact .inr (.inl (hv y hy))
  exact .inr (.inr hy)
 refine ⟨fun hb' y hy => ?_, fun y q hy hq => ha q (hi.init y q hy hq)⟩
 cases hs : Bk vis y with
 | true => exact (hi.seen (hb hb') y hs).mono hg hz hh ha
 | false =>
  rcases hv2 y hy with hy2 | rfl
  .rw [hs] at hy2; cases hy2
  exact hr hb' hs hy
theorem O8 {b : Bool} {z : List Int} {e m : Int} (hm : m ∈ z) : m ∈ (BM b z e).2.2 := by
 unfold BM
 split
 .exact hm
 split
 .exact hm
 exact List.mem_append_left _ hm
theorem GL {b : Bool} {z : List Int} {e : Int} (h : (BM b z e).2.1 = false) : b = false /\ (BM b z e).1 = true /\ e ∈ (BM b z e).2.2 := by
 unfold BM at *
 split
 .rename_i c; rw [if_pos c] at h; exact ⟨h, rfl, c⟩
 rename_i c
 rw [if_neg c] at h
 split
 .rename_i d; rw [if_pos d] at h; cases h
 rename_i d; rw [if_neg d] at h; exact ⟨h, rfl, by simp⟩
theorem Ka {l : List AE} {x y : AE} (h : y ∈ l) : y ∈ EC p l x := by
 unfold EC
 split
 .exact List.mem_append_left _ h
 exact h
theorem MF {l : List AE} {x y : AE} (h : A0 p x = some y) : y ∈ EC p l x := by
 unfold EC
 rw [h]
 simp
theorem AAB {st : List A1} {nd : List AM} {b : Bool} {vis : List (AE × Bool)} {g : List AM} {z h : List Int} {l : List AE} {x : AE} (hi : KI p st nd b vis g z h (l ++ [x])) {s : FS} (hs : s = K4 p st nd b vis g z h l x) :
  KI p st nd s.1 s.2.1 s.2.2.1 s.2.2.2.1 s.2.2.2.2.1 s.2.2.2.2.2 := by
 have sx : Bk (A5 x true vis) x = true := (GK vis x x).2 (.inl rfl)
 have s1 : ∀ y, Bk vis y = true -> Bk (A5 x true vis) y = true := fun y hy => (GK vis x y).2 (.inr hy)
 have s2 : ∀ y, Bk (A5 x true vis) y = true -> Bk vis y = true \/ y = x := fun y hy => ((GK vis x y).1 hy).symm
 unfold K4 at hs
 by_cases c : x.elem ∈ st.map (·.elem) \/ Bk vis x = true
 .rw [if_pos c] at hs
  subst hs
  exact hi.next (fun h => h) (fun _ h => h) (fun _ h => .inl h) (fun _ h => h) c.symm (fun _ h => h) (fun _ h => h) (fun _ h => h) fun _ hn hy => (by rw [hn] at hy; cases hy)
 rw [if_neg c] at hs
 by_cases k1 : 0 <= BD p x /\ p.hard = false
 .rw [if_pos k1] at hs
  subst hs
  refine hi.next (fun h => h) s1 s2 (fun _ h => h) (.inl sx) (fun _ h => h) (fun _ h => h) (fun m hm => ?_) fun _ _ _ => ⟨fun _ => ?_, fun q => absurd k1 q, fun q => absurd k1 q, fun q => absurd k1 q, fun q => absurd k1 q⟩
  .dsimp only; split
   .exact hm
   exact List.mem_append_left _ hm
  dsimp only; split
  .assumption
  simp
 rw [if_neg k1] at hs
 by_cases k4 : Ap p x.elem = 4
 .rw [if_pos k4] at hs
  subst hs
  exact hi.next (fun h => (by cases h)) s1 s2 (fun _ h => h) (.inl sx) (fun _ h => h) (fun _ h => h) (fun _ h => h) fun h => (by cases h)
 rw [if_neg k4] at hs
 by_cases k2 : Ap p x.elem = 2
 .rw [if_pos k2] at hs
  by_cases f0 : x.fin = 0
  .rw [if_pos f0] at hs
   subst hs
   refine hi.next (fun hb => (GL hb).1) s1 s2 (fun y hy => ?_) (.inl sx) (fun _ h => h) (fun _ h => O8 h) (fun _ h => h) fun hb _ _ => ⟨fun q => absurd q k1, fun _ => k4, fun _ _ _ => ⟨(GL hb).2.2, fun o ho y hy => .inl ?_⟩, fun _ _ f => absurd f0 f, fun _ q => absurd k2 q⟩
   .dsimp only; split
    .exact Ka (Ka hy)
    exact hy
   dsimp only
   rw [if_pos (GL hb).2.1]
   rcases ho with rfl | rfl
   .exact MF hy
   exact Ka (MF hy)
  rw [if_neg f0] at hs
  by_cases a : (⟨x.elem, x.fin⟩ : AM) ∈ nd \/ (⟨x.elem, x.fin⟩ : AM) ∈ g
  .rw [if_pos a] at hs
   subst hs
   refine hi.next (fun hb => (GL hb).1) s1 s2 (fun y hy => ?_) (.inl sx) (fun _ h => h) (fun _ h => O8 h) (fun _ h => h) fun hb _ _ => ⟨fun q => absurd q k1, fun _ => k4, fun _ _ f => absurd f f0, fun _ _ _ => .inl ⟨(GL hb).2.2, fun y hy => .inl ?_⟩, fun _ q => absurd k2 q⟩
   .dsimp only; split
    .exact Ka hy
    exact hy
   dsimp only
   rw [if_pos (GL hb).2.1]
   exact MF hy
  rw [if_neg a] at hs
  subst hs
  refine hi.next (fun h => h) s1 s2 (fun _ h => h) (.inl sx) (fun m hm => ?_) (fun _ h => h) (fun _ h => h) fun hb _ _ => ⟨fun q => absurd q k1, fun _ => k4, fun _ _ f => absurd f f0, fun _ _ _ => .inr ?_, fun _ q => absurd k2 q⟩
  .dsimp only; split
   .exact hm
   exact List.mem_append_left _ hm
  dsimp only; split
  .assumption
  simp
 rw [if_neg k2] at hs
 cases ht : BX p x.elem x.fin 0 with
 | none =>
  rw [ht] at hs
  subst hs
  exact hi.next (fun h => h) s1 s2 (fun _ h => h) (.inl sx) (fun _ h => h) (fun _ h => h) (fun _ h => h) fun hb _ _ => ⟨fun q => absurd q k1, fun _ => k4, fun _ q => absurd q k2, fun _ q => absurd q k2, fun _ _ o ho => (by rw [ht] at ho; cases ho)⟩
 | some o =>
  rw [ht] at hs
  subst hs
  refine hi.next (fun hb => (GL hb).1) s1 s2 (fun y hy => ?_) (.inl sx) (fun _ h => h) (fun _ h => O8 h) (fun _ h => h) fun hb _ _ => ⟨fun q => absurd q k1, fun _ => k4, fun _ q => absurd q k2, fun _ q => absurd q k2, fun _ _ o' ho => ?_⟩
  .dsimp only; split
   .exact Ka hy
   exact hy
  rw [ht] at ho
  cases ho
  refine ⟨(GL hb).2.2, fun y hy => .inl ?_⟩
  dsimp only
  rw [if_pos (GL hb).2.1]
  exact MF hy
theorem U6 (hv : Ce p) (hn : DG p n) (h1 : r.steps.length <= 12) (h2 : r.needs.length <= 1000) : ∃ g z h b, Hi n r = some ⟨r.frm, r.to, r.fin, r.steps, r.needs, g, z, h, b⟩ /\ Vi p r.steps z /\ ZU p r.steps g /\ (p.hard = true -> h = []) /\ g.length <= 700 /\ h.length <= 700 /\
  ∃ vis, KI p r.steps r.needs b vis g z h [] := by
 have hj := hv.nj
 have hp := Ns (p := p) r.steps
 rw [Pp hv hn h1 h2]
 obtain ⟨R, e1, g, z, h, b, rfl, e2⟩ := EZ (step := CG n r r.steps r.needs p) (Post := fun R => ∃ g z h b, R = (⟨r.frm, r.to, r.fin, r.steps, r.needs, g, z, h, b⟩ : AU) /\ Vi p r.steps z /\ ZU p r.steps g /\ (p.hard = true -> h = []) /\ g.length <= 700 /\ h.length <= 700 /\ ∃ vis, KI p r.steps r.needs b vis g z h [])
  (fun k s => FI p r.steps 700 k s.2.1 s.2.2.1 s.2.2.2.1 s.2.2.2.2.1 s.2.2.2.2.2 /\ KI p r.steps r.needs s.1 s.2.1 s.2.2.1 s.2.2.2.1 s.2.2.2.2.1 s.2.2.2.2.2) 700 (s := (false, [], [], [], [], (Ek p (D7 p r.steps)).reverse)) (by
   rintro k ⟨b, vis, g, z, h, l⟩ ⟨hi, hk⟩
   have hm := hi.meas
   have hlg := hi.lg
   have hlh := hi.lh
   have hzl := hi.zok.len
   dsimp only at hm hlg hlh hzl hi hk
   rcases List.eq_nil_or_concat l with rfl | ⟨l', x, rfl⟩
   .left
    exact ⟨_, rfl, g, z, h, b, rfl, hi.zok, hi.gok, hi.hold, by omega, by omega, vis, hk⟩
   .right
    rw [List.concat_eq_append] at hi hm hk ⊢
    simp only [List.length_append, List.length_cons, List.length_nil] at hm
    refine ⟨by omega, _, RQ hn h1 h2 b vis g z h l' x (by omega) (by omega) (by omega) (by omega), Vj hv hi rfl, AAB hk rfl⟩) (by
   refine ⟨⟨⟨by simp, by simp, by simp, by simp⟩, ⟨by simp, by simp⟩, fun _ => rfl, fun y hy => ?_, by simp, by simp, ?_⟩, fun _ x hx => ?_, fun x y hx hy => .inl ?_⟩
   .have := List.mem_reverse.1 hy
    obtain ⟨x, hx, rfl⟩ := List.mem_map.1 this
    obtain ⟨y, hy⟩ := Li hx
    rw [hy]
    exact Iu hy
   .have h3 : HV p [] <= (CS p).length := List.length_filter_le _ _
    have h4 : (CS p).length = 2 * p.joins.length := HU _
    simp only [Ek, List.length_reverse, List.length_map]
    omega
   .simp [Bk, AZ] at hx
   rw [List.mem_reverse]
   exact List.mem_map.2 ⟨x, hx, by rw [hy]; rfl⟩)
 exact ⟨g, z, h, b, e1, e2⟩
end
end Go.E
/- Plain Lean: whether a road's flank keeps all others out, told without an order (Wk, GuardP), and the program's answer. No condition. -/
namespace Go.E
open Go
def ABh (lay : Int -> Option Int) (e : Int) (w : DM) : List Int := if w.pos = 0 \/ lay e = none \/ lay e = some w.pos then [w.out] else []
def PA (p : AO) (lay : Int -> Option Int) (x : AE) : List Int := (CR p x.elem x.fin).flatMap (ABh lay x.elem)
def MG (p : AO) (holds : List Int) (x : AE) : Prop := p.hard = false /\ 0 <= BD p x /\ BD p x ∈ holds
instance (p : AO) (holds : List Int) (x : AE) : Decidable (MG p holds x) := by unfold MG; infer_instance
def Ny (p : AO) (lay : Int -> Option Int) (zone : List Int) (x : AE) : Prop := Ap p x.elem ≠ 4 /\ (PA p lay x ≠ [] -> x.elem ∈ zone)
instance (p : AO) (lay : Int -> Option Int) (zone : List Int) (x : AE) : Decidable (Ny p lay zone x) := by unfold Ny; infer_instance
inductive QJ (p : AO) (lay : Int -> Option Int) (holds : List Int) (st : List A1) : AE -> Prop
 | init {x y : AE} : x ∈ D7 p st -> A0 p x = some y -> QJ p lay holds st y
 | step {x y : AE} {o : Int} : QJ p lay holds st x -> x.elem ∉ st.map (·.elem) -> ¬ MG p holds x -> o ∈ PA p lay x -> A0 p ⟨x.elem, o⟩ = some y -> QJ p lay holds st y
def Wk (p : AO) (lay : Int -> Option Int) (holds zone : List Int) (st : List A1) : Prop := ∀ x, QJ p lay holds st x -> x.elem ∉ st.map (·.elem) -> ¬ MG p holds x -> Ny p lay zone x
def Nl (nl : List AM) : Prop := ∀ a ∈ nl, ∀ b ∈ nl, a.elem = b.elem -> a.pos = b.pos
section
variable {p : AO} {n : CX} {r : AU} {lay : Int -> Option Int} {holds zone : List Int} {st : List A1}
structure GI (p : AO) (lay : Int -> Option Int) (holds zone : List Int) (st : List A1) (V : AE -> Prop) (q : List AE) : Prop where
 arr : ∀ x ∈ q, QJ p lay holds st x
 full : ∀ x, V x -> x.elem ∉ st.map (·.elem) -> ¬ MG p holds x -> Ny p lay zone x /\ ∀ o ∈ PA p lay x, ∀ y, A0 p ⟨x.elem, o⟩ = some y -> y ∈ q \/ V y
 init : ∀ x y, x ∈ D7 p st -> A0 p x = some y -> y ∈ q \/ V y
theorem GI.done {V : AE -> Prop} (h : GI p lay holds zone st V []) : Wk p lay holds zone st := by
 have key : ∀ x, QJ p lay holds st x -> V x := by
  intro x hx
  induction hx with
  | init h1 h2 => exact (h.init _ _ h1 h2).resolve_left (by simp)
  | step _ h2 h3 h4 h5 ih => exact ((h.full _ ih h2 h3).2 _ h4 _ h5).resolve_left (by simp)
 exact fun x hx h1 h2 => (h.full x (key x hx) h1 h2).1
theorem GI.bad {V : AE -> Prop} {x : AE} {q : List AE} (h : GI p lay holds zone st V (x :: q)) (h1 : x.elem ∉ st.map (·.elem)) (h2 : ¬ MG p holds x) (hb : ¬ Ny p lay zone x) : ¬ Wk p lay holds zone st :=
 fun hk => hb (hk x (h.arr x (by simp)) h1 h2)
theorem GI.next {V V' : AE -> Prop} {x : AE} {q q' : List AE} (h : GI p lay holds zone st V (x :: q)) (hV : ∀ y, V y -> V' y) (hx : V' x) (hV2 : ∀ y, V' y -> V y \/ y = x) (hq : ∀ y ∈ q, y ∈ q') (hq2 : ∀ y ∈ q', QJ p lay holds st y)
  (hf : ¬ V x -> x.elem ∉ st.map (·.elem) -> ¬ MG p holds x -> Ny p lay zone x /\ ∀ o ∈ PA p lay x, ∀ y, A0 p ⟨x.elem, o⟩ = some y -> y ∈ q' \/ V' y) : GI p lay holds zone st V' q' := by
 have keep : ∀ y, y ∈ x :: q \/ V y -> y ∈ q' \/ V' y := by
  rintro y (hy | hy)
  .rcases List.mem_cons.1 hy with rfl | hy
   .exact .inr hx
   exact .inl (hq y hy)
  exact .inr (hV y hy)
 refine ⟨hq2, fun y hy h1 h2 => ?_, fun a b ha hb => keep b (h.init a b ha hb)⟩
 by_cases c : V y
 .have := h.full y c h1 h2
  exact ⟨this.1, fun o ho z hz => keep z (this.2 o ho z hz)⟩
 rcases hV2 y hy with hy2 | rfl
 .exact absurd hy2 c
 exact hf c h1 h2
def UY (p : AO) (e : Int) (l : List Int) : List AE := l.flatMap fun o => match A0 p ⟨e, o⟩ with
 | some y => [y]
 | none => []
theorem RT {e o : Int} {l : List Int} {y : AE} : y ∈ UY p e l ↔ ∃ o ∈ l, A0 p ⟨e, o⟩ = some y := by
 unfold UY
 rw [List.mem_flatMap]
 constructor
 .rintro ⟨o, ho, hy⟩
  cases hx : A0 p ⟨e, o⟩ with
  | none => rw [hx] at hy; cases hy
  | some z => rw [hx] at hy; simp at hy; subst hy; exact ⟨o, ho, hx⟩
 rintro ⟨o, ho, hy⟩
 exact ⟨o, ho, by rw [hy]; simp⟩
theorem GI.go {V V' : AE -> Prop} {x : AE} {q : List AE} (h : GI p lay holds zone st V (x :: q)) (h1 : x.elem ∉ st.map (·.elem)) (h2 : ¬ MG p holds x) (hg : Ny p lay zone x) (hV : ∀ y, V' y ↔ V y \/ y = x) : GI p lay holds zone st V' (q ++ UY p x.elem (PA p lay x)) := by
 have hx := h.arr x (by simp)
 refine h.next (fun y hy => (hV y).2 (.inl hy)) ((hV x).2 (.inr rfl)) (fun y hy => (hV y).1 hy) (fun y hy => List.mem_append_left _ hy) (fun y hy => ?_) (fun _ _ _ => ⟨hg, fun o ho y hy => .inl (List.mem_append_right _ (RT (o := o) |>.2 ⟨o, ho, hy⟩))⟩)
 rcases List.mem_append.1 hy with hy | hy
 .exact h.arr y (by simp [hy])
 obtain ⟨o, ho, hy⟩ := (RT (o := 0)).1 hy
 exact .step hx h1 h2 ho hy
end
end Go.E
/- Plain Lean: a road that is guarded keeps all out, whatever way other points lie; what a flank keeps is guarded. No condition. -/
namespace Go.E
open Go
section
variable {p : AO} {n : CX} {r : AU} {lay : Int -> Option Int} {holds zone : List Int} {st : List A1} {lie : List Int} {shut : List Bool}
end
end Go.E
/- Plain Lean: whether a road is guarded: the program's answer and the document's are one. No condition. -/
namespace Go.E
open Go
def okG (p : AO) (m : AM) : Prop := Ap p m.elem = 2 /\ (m.pos = 1 \/ m.pos = 2)
instance (p : AO) (m : AM) : Decidable (okG p m) := by unfold okG; infer_instance
section
variable {p : AO} {n : CX} {r : AU}
end
end Go.E
/- Plain Lean: whether a road is guarded, by the program and by the document (law ProofGuards); what is guarded keeps (law ProofKeeps). No condition. -/
namespace Go.E
open Go
section
variable {p : AO} {n : CX} {r : AU}
end
end Go.E
/- Plain Lean: what is wrong first with a chart of a valid plan: the program's answer and the document's are one (checkF). No condition. -/
namespace Go.E
open Go
section
variable {p : AO} {n : CX}
theorem Xp (hv : Ce p) {a b : AU} (ha : Vh p a = true) (hb : Vh p b = true) (h : a.steps = b.steps) : a.frm = b.frm := by
 obtain ⟨s1, n1, l1, a1, a2, a3, a4, a5, a6, a7⟩ := MB ha
 obtain ⟨s2, n2, l2, b1, b2, b3, b4, b5, b6, b7⟩ := MB hb
 have key : ∀ (sg : BI) (st : List A1) (nd : List AM), 1 <= st.length -> Do p sg.at_.elem (A0 p sg.at_) [] [] st = some nd -> ∃ q, st.head? = some q /\ A0 p sg.at_ = some ⟨q.elem, q.in_⟩ := fun sg st nd hl hs => by
  cases st with
  | nil => simp at hl
  | cons q r =>
   cases hx : A0 p sg.at_ with
   | none => rw [hx] at hs; simp [Do] at hs
   | some x =>
    rw [hx] at hs
    unfold Do at hs
    split at hs
    .cases hs
    rename_i c
    have e1 : q.elem = x.elem := Decidable.byContradiction fun h => c (.inl h)
    have e2 : q.in_ = x.fin := Decidable.byContradiction fun h => c (.inr (.inl h))
    exact ⟨q, rfl, by rw [e1, e2]⟩
 obtain ⟨q1, c1, c2⟩ := key s1 a.steps n1 a2 a4
 obtain ⟨q2, d1, d2⟩ := key s2 b.steps n2 b2 b4
 rw [h] at c1
 rw [c1] at d1
 cases d1
 have e1 := Ss hv.join c2
 have e2 := Ss hv.join d2
 rw [e1] at e2
 have e3 : s1.at_ = s2.at_ := by injection e2
 obtain ⟨f1, f2⟩ := Xq a1
 obtain ⟨g1, g2⟩ := Xq b1
 have r1 := hv.sig.reads _ _ f1
 have r2 := hv.sig.reads _ _ g1
 rw [e3, r2] at r1
 rw [f2, g2]; omega
end
end Go.E
/- Plain Lean: the chart of a valid plan with one thing of one road turned (law ProofTurned). No condition. -/
namespace Go.E
open Go
section
variable {p : AO} {n : CX}
theorem Wl (h : HN p = some true) : ES p = some 0 := by
 unfold HN at h
 cases h1 : Ji p with
 | none => rw [h1] at h; cases h
 | some b =>
  rw [h1] at h
  cases b with
  | false => cases h
  | true =>
   cases h2 : ES p with
   | none => rw [h2] at h; cases h
   | some e =>
    rw [h2] at h
    simp only [Option.bind_some, cond_true, Option.some.injEq, beq_iff_eq] at h
    rw [h]
noncomputable def GJ (n : CX) (r : AU) : AU := (Hi n r).getD r
structure AAC (p : AO) (r q : AU) : Prop where
 frm : q.frm = r.frm
 to : q.to = r.to
 fin : q.fin = r.fin
 steps : q.steps = r.steps
 needs : q.needs = r.needs
 zone : Vi p r.steps q.zone
 guards : ZU p r.steps q.guards
 hard : p.hard = true -> q.holds = []
 lg : q.guards.length <= 700
 lh : q.holds.length <= 700
 keep : ∃ vis, KI p r.steps r.needs q.bare vis q.guards q.zone q.holds []
theorem My (hv : Ce p) (hn : DG p n) {r : AU} (h1 : r.steps.length <= 12) (h2 : r.needs.length <= 1000) : Hi n r = some (GJ n r) /\ AAC p r (GJ n r) := by
 obtain ⟨g, z, h, b, e1, e2, e3, e4, e5, e6, e7⟩ := U6 hv hn h1 h2
 have hR2 : GJ n r = ⟨r.frm, r.to, r.fin, r.steps, r.needs, g, z, h, b⟩ := by unfold GJ; rw [e1]; rfl
 refine ⟨by rw [hR2, e1], ?_⟩
 rw [hR2]
 exact ⟨rfl, rfl, rfl, rfl, rfl, e2, e3, e4, e5, e6, e7⟩
theorem Yz (hv : Ce p) (hn : DG p n) {r : AU} (h1 : r.steps.length <= 12) (h2 : r.needs.length <= 1000) : Gi p r = some (GJ n r) := by
 obtain ⟨R, R1, R2⟩ := Yy hv hn h1 h2
 have hR : GJ n r = R := by unfold GJ; rw [R2]; rfl
 rw [hR, R1]
theorem AA9 {α : Type} (l m : List α) (x y : α) : IX (l ++ x :: m) (l.length : Int) y = l ++ y :: m := by
 show (l ++ x :: m).set (l.length : Int).toNat y = _
 rw [Int.toNat_natCast]
 simp
theorem Xr {l : List AU} (f : AU -> AU) {β : Type} {step : Int × List AU -> Option ((Int × List AU) ⊕ β)} {fin : List AU -> β} (hl : l.length <= 1000)
  (h0 : ∀ c, c.length = l.length -> step ((l.length : Int), c) = some (.inr (fin c))) (h1 : ∀ (i : Nat) r c, l[i]? = some r -> c[i]? = some r -> c.length = l.length -> step ((i : Int), c) = some (.inl (((i + 1 : Nat) : Int), IX c (i : Int) (f r)))) : AP step ((0 : Int), l) = some (fin (l.map f)) := by
 obtain ⟨b, h2, rfl⟩ := B9 (l := l) (step := step) (Post := fun b => b = fin (l.map f)) (fun i c => c = (l.take i).map f ++ l.drop i) (c := l)
  (fun c hc => ⟨fin c, h0 c (by rw [hc]; simp), by rw [hc, List.take_length, List.drop_length, List.append_nil]⟩)
  (fun i r c hr hc => by
   have hi := BY hr
   have hd : l.drop i = r :: l.drop (i + 1) := by
    obtain ⟨h, e⟩ := List.getElem?_eq_some_iff.1 hr
    rw [List.drop_eq_getElem_cons h, e]
   have hlen : ((l.take i).map f).length = i := by simp; omega
   have hci : c[i]? = some r := by
    rw [hc, hd, List.getElem?_append_right (by omega), hlen]; simp
   refine .inr ⟨IX c (i : Int) (f r), h1 i r c hr hci (by rw [hc]; simp; omega), ?_⟩
   have := AA9 ((l.take i).map f) (l.drop (i + 1)) r (f r)
   rw [hlen] at this
   rw [hc, hd, this, List.take_add_one, hr]
   simp)
  (by simp)
 exact h2
theorem Xs (hv : Ce p) (hn : DG p n) (h0 : ES p = some 0) : ∃ c e, EW p = some (c, e) /\ (e = 0 -> (Ej p).2 = 0 /\ c = ⟨p, (Ej p).1.map (GJ n)⟩) := by
 unfold EW
 simp only [h0, Option.bind_some, bne_self_eq_false, cond_false, WX hv]
 by_cases c : (Ej p).2 = 0
 .have c' : ((Ej p).2 != 0) = false := by simp [c]
  rw [c']
  simp only [cond_false]
  have hl : (Ej p).1.length <= 64 := by
   unfold Ej
   split
   .simp
   simp only; omega
  refine ⟨_, 0, ?_, fun _ => ⟨c, rfl⟩⟩
  exact Xr (l := (Ej p).1) (GJ n) (step := Fj p) (fin := fun l => ((⟨p, l⟩ : Nb), (0 : Int))) (by omega) (fun q hq => by
   have d : decide (((Ej p).1.length : Int) < (q.length : Int)) = false := decide_eq_false (by omega)
   simp only [Fj, d, cond_false]) (fun i r q hr hq hlen => by
   have hi := BY hr
   obtain ⟨s, hs⟩ := QE (List.mem_of_getElem? hr)
   have hro := FL hs
   have f2 := Yz hv hn (r := r) (Is hs) (by have := hro.2.2.2.2.2.2.2.2; omega)
   have d : decide ((i : Int) < (q.length : Int)) = true := decide_eq_true (by omega)
   simp only [Fj, d, cond_true, Af, hq, Option.bind_some, f2, AT (show i < 1000000000 by omega)])
 have c' : ((Ej p).2 != 0) = true := by simp [c]
 rw [c']
 exact ⟨_, _, rfl, fun h => absurd h c⟩
end
end Go.E
/- Plain Lean: what is built is fine (law ProofBuilt); what a chart without one of its roads lacks, and with one of them twice (law ProofLacks). No condition. -/
namespace Go.E
open Go
section
variable {p : AO} {n : CX}
theorem Sw (hv : Ce p) {s s' : Int} {a b : AU} (ha : a ∈ Gz p s) (hb : b ∈ Gz p s') (h : a.steps = b.steps) : a = b /\ s = s' := by
 have fa := FL ha
 have fb := FL hb
 have e := Xp hv fa.1 fb.1 h
 obtain ⟨s1, n1, l1, a1, a2, a3, a4, a5, a6, a7⟩ := MB fa.1
 obtain ⟨s2, n2, l2, b1, b2, b3, b4, b5, b6, b7⟩ := MB fb.1
 rw [e, b1] at a1
 have e1 : s2 = s1 := Option.some.inj a1
 subst e1
 rw [h, b4] at a4
 have e2 : n2 = n1 := Option.some.inj a4
 rw [h, b5] at a5
 have e3 : l2 = l1 := Option.some.inj a5
 subst e3
 have e4 : a.fin = b.fin /\ a.to = b.to := by
  unfold Nq at a6 b6
  split at a6
  .rename_i k
   rw [if_pos k] at b6
   simp only [decide_eq_true_eq] at a6 b6
   exact ⟨by rw [a6.1, b6.1], by rw [a6.2, b6.2]⟩
  rename_i k
  rw [if_neg k] at b6
  split at a6
  .rename_i k2
   rw [if_pos k2] at b6
   simp only [decide_eq_true_eq] at a6 b6
   exact ⟨by rw [a6.1, b6.1], by rw [a6.2, b6.2]⟩
  rename_i k2
  rw [if_neg k2] at b6
  simp only [Bool.and_eq_true, decide_eq_true_eq] at a6 b6
  exact ⟨by rw [a6.2.1, b6.2.1], by rw [a6.2.2, b6.2.2]⟩
 refine ⟨Yl.2 ⟨e, e4.2, e4.1, h, by rw [a7, b7, e2], by rw [fa.2.2.1, fb.2.2.1], by rw [fa.2.2.2.1, fb.2.2.2.1], by rw [fa.2.2.2.2.1, fb.2.2.2.2.1], by rw [fa.2.2.2.2.2.1, fb.2.2.2.2.2.1]⟩, ?_⟩
 rw [<- fa.2.1, <- fb.2.1, e]
theorem MH (hv : Ce p) : ∀ i : Nat, (Ih p i).Nodup /\ ∀ r ∈ Ih p i, ∃ s : Nat, s < i /\ r ∈ Gz p (s : Int)
 | 0 => ⟨by simp [Ih], by simp [Ih]⟩
 | i + 1 => by
  obtain ⟨h1, h2⟩ := MH hv i
  rw [O1]
  refine ⟨List.nodup_append.2 ⟨h1, Xg _, fun a ha b hb e => ?_⟩, fun r hr => ?_⟩
  .obtain ⟨s, hs, hm⟩ := h2 a ha
   have := (Sw hv hm hb (by rw [e])).2
   omega
  rcases List.mem_append.1 hr with hr | hr
  .obtain ⟨s, hs, hm⟩ := h2 r hr
   exact ⟨s, by omega, hm⟩
  exact ⟨i, by omega, hr⟩
theorem ABA {s : Nat} {r : AU} (hs : s < p.signals.length) (hr : r ∈ Gz p (s : Int)) : r ∈ Lh p := by
 unfold Lh Ih
 exact List.mem_flatMap.2 ⟨s, List.mem_range.2 hs, hr⟩
structure TQ (p : AO) (n : CX) (l : List AU) : Prop where
 eq : l = (Lh p).map (GJ n)
 len : l.length <= 64
theorem TQ.inj (hv : Ce p) (hn : DG p n) {l : List AU} (hb : TQ p n l) {i k : Nat} {a b : AU} (ha : l[i]? = some a) (hk : l[k]? = some b) (h : a.steps = b.steps) : i = k := by
 rw [hb.eq, List.getElem?_map] at ha hk
 obtain ⟨x, hx, rfl⟩ := Option.map_eq_some_iff.1 ha
 obtain ⟨y, hy, rfl⟩ := Option.map_eq_some_iff.1 hk
 obtain ⟨s, hs, hm⟩ := (MH hv p.signals.length).2 x (List.mem_of_getElem? hx)
 obtain ⟨s', hs', hm'⟩ := (MH hv p.signals.length).2 y (List.mem_of_getElem? hy)
 obtain ⟨_, f⟩ := My hv hn (Is hm) (show x.needs.length <= 1000 by have := (FL hm).2.2.2.2.2.2.2.2; omega)
 obtain ⟨_, f'⟩ := My hv hn (Is hm') (show y.needs.length <= 1000 by have := (FL hm').2.2.2.2.2.2.2.2; omega)
 rw [f.steps, f'.steps] at h
 have e := (Sw hv hm hm' h).1
 subst e
 have hnd := (MH hv p.signals.length).1
 obtain ⟨h1, h2⟩ := List.getElem?_eq_some_iff.1 hx
 obtain ⟨h3, h4⟩ := List.getElem?_eq_some_iff.1 hy
 exact (List.getElem_inj hnd).1 (h2.trans h4.symm)
theorem TQ.have (hv : Ce p) (hn : DG p n) {l : List AU} (hb : TQ p n l) {s : Nat} {r : AU} (hs : s < p.signals.length) (hr : r ∈ Gz p (s : Int)) : ∃ q ∈ l, q = GJ n r /\ q.steps = r.steps := by
 obtain ⟨_, f⟩ := My hv hn (Is hr) (show r.needs.length <= 1000 by have := (FL hr).2.2.2.2.2.2.2.2; omega)
 exact ⟨_, by rw [hb.eq]; exact List.mem_map.2 ⟨r, ABA hs hr, rfl⟩, rfl, f.steps⟩
end
end Go.E
/- Plain Lean: the document's check takes each valid plan. No condition. -/
namespace Go.E
open Go
theorem AAD {α β : Type} {l : List α} {step : Int -> Option (Int ⊕ β)} {b : β} (h0 : step (l.length : Int) = some (.inr b)) (h1 : ∀ (i : Nat) a, l[i]? = some a -> step (i : Int) = some (.inl ((i + 1 : Nat) : Int))) : AP step 0 = some b := by
 obtain ⟨c, hc, rfl⟩ := Bm (l := l) (step := step) (Post := fun c => c = b) (fun _ _ => True) (fun _ => ⟨b, h0, rfl⟩) (fun i a ha _ => .inr ⟨h1 i a ha, trivial⟩)
 exact hc
end Go.E
/- Plain Lean: the program's check answers of every plan that is not too long; what it takes is valid. No condition. -/
namespace Go.E
open Go
end Go.E
/- Plain Lean: the program and the document say the same of what is wrong first with a chart (ProofChecks). No condition. -/
namespace Go.E
open Go
end Go.E
/- Plain Lean: what a book of locks says, whatever the order in which its maps are gone through. No condition. -/
namespace Go.E
open Go
def P8 (m : List (Int × List Int)) (e : Int) : Int := match m.find? (fun p => decide (e ∈ p.2)) with
 | some p => p.1
 | none => -1
def Y0 (m : List (Int × List Int)) (e : Int) : Prop := ∀ p ∈ m, ∀ q ∈ m, e ∈ p.2 -> e ∈ q.2 -> p.1 = q.1
theorem R9 {m : List (Int × List Int)} {e : Int} (h : Y0 m e) {q : Int × List Int} (hq : q ∈ m) (he : e ∈ q.2) : P8 m e = q.1 := by
 unfold P8
 cases hf : m.find? (fun p => decide (e ∈ p.2)) with
 | none => exact absurd he (by simpa using List.find?_eq_none.1 hf q hq)
 | some p => exact h p (List.mem_of_find?_eq_some hf) q hq (by simpa using List.find?_some hf) he
theorem SA {m : List (Int × List Int)} {e : Int} (h : ∀ p ∈ m, e ∉ p.2) : P8 m e = -1 := by
 unfold P8
 cases hf : m.find? (fun p => decide (e ∈ p.2)) with
 | none => rfl
 | some p => exact absurd (by simpa using List.find?_some hf) (h p (List.mem_of_find?_eq_some hf))
theorem Nc (b : AY) (e : Int) (h1 : Y0 b.steps e) (hl : ∀ p ∈ b.steps, p.2.length < 1000000) : Bh b e = some (P8 b.steps e) := by
 unfold Bh
 refine L4 (fun s => (∀ p ∈ s, p ∈ b.steps) /\ ∀ p ∈ b.steps, e ∈ p.2 -> p ∈ s) (fun s hs h0 => ?_) (fun s j y hs hy => ?_) ⟨fun p hp => hp, fun p hp _ => hp⟩
 .simp only [Fk]
  rw [SA fun p hp he => by have := hs.2 p hp he; rw [h0] at this; cases this]
 have hmem := hs.1 y (List.mem_of_getElem? hy)
 have hp := JN hy
 simp only [GC, JT y.2 (hl y hmem) e, Option.bind_some]
 by_cases he : e ∈ y.2
 .exact .inl (by rw [decide_eq_true he, R9 h1 hmem he]; rfl)
 refine .inr ⟨s.eraseIdx j, by rw [decide_eq_false he]; rfl, rfl, fun p h => hs.1 p (hp.mem_iff.1 (List.mem_cons_of_mem _ h)), fun p h h' => ?_⟩
 rcases List.mem_cons.1 (hp.mem_iff.2 (hs.2 p h h')) with rfl | h2
 .exact absurd h' he
 exact h2
def QD (m : List (Int × List Int)) (e : Int) : List Int := En ((m.filter fun p => decide (e ∈ p.2)).map (·.1))
theorem Nd (b : AY) (e : Int) (hm : b.zone.length < 1000000) (hl : ∀ p ∈ b.zone, p.2.length < 1000000) : CM b e = some (QD b.zone e) := by
 unfold CM
 refine L4 (fun s => (∀ p ∈ s.2, p ∈ b.zone) /\ (s.1 ++ (s.2.filter fun p => decide (e ∈ p.2)).map (·.1)).Perm ((b.zone.filter fun p => decide (e ∈ p.2)).map (·.1))) (fun s hs h0 => ?_) (fun s j y hs hy => ?_) ⟨fun p hp => hp, by simp⟩
 .obtain ⟨a, r⟩ := s
  simp only at h0 hs
  subst h0
  have hp := hs.2
  simp only [List.filter_nil, List.map_nil, List.append_nil] at hp
  have hlen := hp.length_eq
  have h2 := List.length_filter_le (fun p => decide (e ∈ p.2)) b.zone
  rw [List.length_map] at hlen
  have e1 : JL a = some (En a) := by unfold JL; rw [if_pos (by omega)]
  simp only [Fm, e1, Option.bind_some, Option.map_some, Pk hp]
  rfl
 obtain ⟨a, r⟩ := s
 obtain ⟨h1, h2⟩ := hs
 simp only at h1 h2 hy ⊢
 have hmem := h1 y (List.mem_of_getElem? hy)
 have hp := JN hy
 have hlen := h2.length_eq
 have h3 := List.length_filter_le (fun p => decide (e ∈ p.2)) b.zone
 simp only [List.length_append, List.length_map] at hlen
 have hsub : ∀ p ∈ r.eraseIdx j, p ∈ b.zone := fun p h => h1 p (hp.mem_iff.1 (List.mem_cons_of_mem _ h))
 have hpf := ((hp.filter fun p => decide (e ∈ p.2)).map (·.1))
 simp only [GD, JT y.2 (hl y hmem) e, Option.bind_some]
 by_cases he : e ∈ y.2
 .refine .inr ⟨(a ++ [y.1], r.eraseIdx j), ?_, rfl, hsub, ?_⟩
  .rw [decide_eq_true he, A2 (by simp; omega)]; rfl
  rw [List.filter_cons_of_pos (by simpa using he)] at hpf
  simp only [List.append_assoc, List.singleton_append]
  exact (List.Perm.append_left a hpf).trans h2
 refine .inr ⟨(a, r.eraseIdx j), by rw [decide_eq_false he]; rfl, rfl, hsub, ?_⟩
 rw [List.filter_cons_of_neg (by simpa using he)] at hpf
 exact (List.Perm.append_left a hpf).trans h2
def Cj (l : List AM) (e : Int) : Option Int := (l.find? fun x => x.elem == e).map (·.pos)
def HW (b : AY) (o : Int) : List AM := (AZ b.needs o).getD [] ++ (AZ b.guards o).getD []
def Co (b : AY) (e : Int) (m : List (Int × List AM)) : List Int := m.filterMap fun p => Cj (HW b p.1) e
def AB5 (b : AY) (e : Int) : Prop := ∀ x ∈ Co b e b.needs, ∀ y ∈ Co b e b.needs, x = y
theorem Sd (l : List AM) (e : Int) (hl : l.length < 1000000) {β : Type} {step : Int -> Option (Int ⊕ β)} {no : β} {yes : Int -> β} (h0 : step (l.length : Int) = some (.inr no))
  (h1 : ∀ (i : Nat) x, l[i]? = some x -> step (i : Int) = bif x.elem == e then some (.inr (yes x.pos)) else some (.inl ((i + 1 : Nat) : Int))) : AP step 0 = some (match Cj l e with | some q => yes q | none => no) := by
 obtain ⟨b, hb, hp⟩ := Bm (l := l) (step := step) (Post := fun b => b = match Cj l e with | some q => yes q | none => no) (fun _ x => x.elem ≠ e) (fun g => ⟨no, h0, by
  have : l.find? (fun x => x.elem == e) = none := List.find?_eq_none.2 fun x hx => by
   obtain ⟨i, hi⟩ := List.mem_iff_getElem?.1 hx
   simpa using g i x hi
  simp only [Cj, this, Option.map_none]⟩) (fun i x hx hg => by
  rw [h1 i x hx]
  by_cases he : x.elem = e
  .refine .inl ⟨yes x.pos, by simp [he], ?_⟩
   have : l.find? (fun x => x.elem == e) = some x := by
    rw [List.find?_eq_some_iff_getElem]
    exact ⟨by simpa using he, i, BY hx, (List.getElem?_eq_some_iff.1 hx).2, fun j hj => by
     have := hg j _ hj (List.getElem?_eq_getElem (by have := BY hx; omega))
     simpa using this⟩
   simp only [Cj, this, Option.map_some]
  exact .inr ⟨by rw [beq_eq_false_iff_ne.2 he]; rfl, he⟩)
 rw [hb, hp]
theorem PT (b : AY) (e : Int) (hm : b.needs.length < 1000000) (hl : ∀ p ∈ b.needs, ((AZ b.needs p.1).getD []).length < 100000 /\ ((AZ b.guards p.1).getD []).length < 100000) (h1 : AB5 b e) :
  Bs b e = some ((Co b e b.needs).headD 0, ((Co b e b.needs).length : Int)) := by
 have hle := List.length_filterMap_le (fun p : Int × List AM => Cj (HW b p.1) e) b.needs
 unfold Bs
 refine L4 (fun s => (∀ p ∈ s.2.2, p ∈ b.needs) /\ 0 <= s.2.1 /\ s.2.1 + ((Co b e s.2.2).length : Int) = ((Co b e b.needs).length : Int) /\ (s.2.1 = 0 -> s.1 = 0) /\ (s.2.1 ≠ 0 -> s.1 = (Co b e b.needs).headD 0)) (fun s hs h0 => ?_) (fun s j y hs hy => ?_) ⟨fun p hp => hp, Int.le_refl _, by simp, fun _ => rfl, fun h => absurd rfl h⟩
 .obtain ⟨x, n, r⟩ := s
  simp only at h0 hs
  subst h0
  obtain ⟨-, a1, a2, a3, a4⟩ := hs
  simp only [Co, List.filterMap_nil, List.length_nil] at a2
  simp only [GE]
  have e1 : n = ((Co b e b.needs).length : Int) := by unfold Co; omega
  have e2 : x = (Co b e b.needs).headD 0 := by
   by_cases hz : n = 0
   .rw [a3 hz]
    have : Co b e b.needs = [] := List.length_eq_zero_iff.1 (by omega)
    rw [this]; rfl
   exact a4 hz
  rw [e1, e2]
 obtain ⟨x, n, r⟩ := s
 obtain ⟨h2, a1, a2, a3, a4⟩ := hs
 simp only at h2 a1 a2 a3 a4 hy ⊢
 have hmem := h2 y (List.mem_of_getElem? hy)
 obtain ⟨l1, l2⟩ := hl y hmem
 have hp := JN hy
 have hsub : ∀ p ∈ r.eraseIdx j, p ∈ b.needs := fun p h => h2 p (hp.mem_iff.1 (List.mem_cons_of_mem _ h))
 have hpl := (hp.filterMap fun p : Int × List AM => Cj (HW b p.1) e).length_eq
 have c1 : BU ((AZ b.needs y.1).getD []) = some ((AZ b.needs y.1).getD []) := EI _ (by omega)
 have ha : (HW b y.1).length < 1000000 := by unfold HW; rw [List.length_append]; omega
 simp only [Gj, c1, Option.bind_some, A2 (show ((AZ b.needs y.1).getD []).length + ((AZ b.guards y.1).getD []).length <= 4294967296 by omega)]
 have hn : n <= (Co b e b.needs).length := by omega
 have hlt : (Co b e b.needs).length < 1000000 := by unfold Co; omega
 have L := Sd (HW b y.1) e ha (step := Dm e (x, n, r) (r.eraseIdx j) (HW b y.1)) (no := .inl (x, n, r.eraseIdx j)) (yes := fun q => .inl (q, Ae (n + 1), r.eraseIdx j)) (by simp only [Dm, Bw, cond_false]) (fun i z hz => by
  have := BY hz
  simp only [Dm, BS hz, cond_true, Af, hz, Option.bind_some, AT (show i < 1000000000 by omega)])
 unfold HW at L
 rw [L]
 cases hf : Cj ((AZ b.needs y.1).getD [] ++ (AZ b.guards y.1).getD []) e with
 | none =>
  refine .inr ⟨(x, n, r.eraseIdx j), rfl, rfl, hsub, a1, ?_, a3, a4⟩
  rw [List.filterMap_cons_none (by unfold HW; exact hf)] at hpl
  simp only
  unfold Co at a2 ⊢
  omega
 | some q =>
  have hq : q ∈ Co b e b.needs := List.mem_filterMap.2 ⟨y, hmem, by unfold HW; exact hf⟩
  have hhd : q = (Co b e b.needs).headD 0 := by
   cases hh : Co b e b.needs with
   | nil => rw [hh] at hq; cases hq
   | cons z zs => exact h1 q hq z (by rw [hh]; simp)
  rw [List.filterMap_cons_some (by unfold HW; exact hf), List.length_cons] at hpl
  have hw : Ae (n + 1) = n + 1 := CL (by omega) (by omega)
  refine .inr ⟨(q, Ae (n + 1), r.eraseIdx j), rfl, rfl, hsub, ?_, ?_, fun h => ?_, fun _ => hhd⟩
  .simp only [hw]; omega
  .simp only [hw]; unfold Co at a2 ⊢; omega
  simp only [hw] at h; omega
end Go.E
/- Plain Lean: of two roads each is taken for itself; which is refused beside the other. No condition. -/
namespace Go.E
open Go
structure Cu (n : Int) (r : AU) : Prop where
 one : 1 <= r.steps.length
 ls : r.steps.length <= 1000
 ln : r.needs.length <= 1000
 lg : r.guards.length <= 1000
 lz : r.zone.length <= 1000
 step : ∀ s ∈ r.steps, 0 <= s.elem /\ s.elem < n
 once : (r.steps.map (·.elem)).Nodup
 zone : ∀ e ∈ r.zone, 0 <= e /\ e < n /\ e ∉ r.steps.map (·.elem)
 need : ∀ x ∈ r.needs ++ r.guards, (0 <= x.elem /\ x.elem < n) /\ (x.pos = 1 \/ x.pos = 2)
 cons : Nl (r.needs ++ r.guards)
theorem PX (b : AY) (e : Int) : Dx b e = some (decide (0 <= e) && decide (e < b.elems)) := by
 unfold Dx
 cases decide (0 <= e) <;> rfl
theorem UK (b : AY) (r : AU) (h : Cu b.elems r) : C8 b r = some true := by
 have h1 := h.one; have h2 := h.ls; have h3 := h.ln; have h4 := h.lg; have h5 := h.lz
 unfold C8
 rw [beq_eq_false_iff_ne.2 (show ((r.steps.length : Int)) ≠ 0 by omega)]
 simp only [cond_false]
 have one4 : ∀ (i : Nat) (l done : List AM) (s : Int × List (Int × Int)), s.1 = (i : Int) -> i <= 2 -> l.length <= 1000 -> (∀ x ∈ done ++ l, (0 <= x.elem /\ x.elem < b.elems) /\ (x.pos = 1 \/ x.pos = 2)) -> Nl (done ++ l) -> (∀ k v, AZ s.2 k = some v -> ∃ x ∈ done, x.elem = k /\ x.pos = v) ->
   ∃ c', AP (CC b s l) (0, s.2) = some (.inl (((i + 1 : Nat) : Int), c')) /\ ∀ k v, AZ c' k = some v -> ∃ x ∈ done ++ l, x.elem = k /\ x.pos = v := by
  intro i l done s hs hi hl hx hc hI
  obtain ⟨t, ht, c', rfl, hc'⟩ : ∃ t, AP (CC b s l) (0, s.2) = some t /\ ∃ c', t = .inl (((i + 1 : Nat) : Int), c') /\ ∀ k v, AZ c' k = some v -> ∃ x ∈ done ++ l, x.elem = k /\ x.pos = v := by
   refine B9 (l := l) (fun j c => ∀ k v, AZ c k = some v -> ∃ x ∈ done ++ l.take j, x.elem = k /\ x.pos = v) (fun c hc' => ?_) (fun j x c hj hc' => ?_) (c := s.2) (fun k v hk => by obtain ⟨x, hx, e⟩ := hI k v hk; exact ⟨x, by simpa using hx, e⟩)
   .rw [List.take_length] at hc'
    exact ⟨_, by simp only [CC, Bw, cond_false, hs, AT (show i < 1000000000 by omega)], c, rfl, hc'⟩
   have hjl := BY hj
   have hm : x ∈ done ++ l := List.mem_append_right _ (List.mem_of_getElem? hj)
   obtain ⟨⟨x1, x2⟩, x3⟩ := hx x hm
   have hp : ((bif (x.pos != 1) then bif (x.pos != 2) then some true else bif (AZ c x.elem).isSome then some (((AZ c x.elem).getD 0) != x.pos) else some false else bif (AZ c x.elem).isSome then some (((AZ c x.elem).getD 0) != x.pos) else some false : Option Bool)) = some false := by
    have hq : ((bif (AZ c x.elem).isSome then some (((AZ c x.elem).getD 0) != x.pos) else some false : Option Bool)) = some false := by
     cases ha : AZ c x.elem with
     | none => rfl
     | some v =>
      obtain ⟨y, hy, y1, y2⟩ := hc' _ _ ha
      have hy' : y ∈ done ++ l := by
       rcases List.mem_append.1 hy with hy | hy
       .exact List.mem_append_left _ hy
       exact List.mem_append_right _ (List.mem_of_mem_take hy)
      have := hc y hy' x hm y1
      simp only [Option.isSome_some, cond_true, Option.getD_some, Option.some.injEq, bne_eq_false_iff_eq]
      omega
    rcases x3 with x3 | x3 <;> simp only [x3] at hq ⊢ <;> exact hq
   refine .inr ⟨A5 x.elem x.pos c, ?_, fun k v hk => ?_⟩
   .simp only [CC, BS hj, cond_true, Af, hj, Option.bind_some, PX, decide_eq_true x1, decide_eq_true x2, Bool.and_self, Bool.not_true, cond_false, hp, AT (show j < 1000000000 by omega)]
   rw [DE] at hk
   rw [List.take_add_one, hj]
   by_cases e : k = x.elem
   .rw [if_pos e] at hk; cases hk
    exact ⟨x, by simp, e.symm, rfl⟩
   rw [if_neg e] at hk
   obtain ⟨y, hy, e2⟩ := hc' k v hk
   exact ⟨y, by rw [<- List.append_assoc]; exact List.mem_append_left _ hy, e2⟩
  exact ⟨c', ht, hc'⟩
 have l3 : AP (BW b r) (0, []) = some true := by
  obtain ⟨c1, e1, d1⟩ := one4 0 r.needs [] (0, []) rfl (by omega) h3 (fun x hx => h.need x (List.mem_append_left _ (by simpa using hx))) (fun x hx y hy => h.cons x (List.mem_append_left _ (by simpa using hx)) y (List.mem_append_left _ (by simpa using hy))) (fun k v hk => by simp [AZ] at hk)
  obtain ⟨c2, e2, d2⟩ := one4 1 r.guards r.needs (1, c1) rfl (by omega) h4 h.need h.cons (fun k v hk => by simpa using d1 k v hk)
  have i0 : An ([r.needs, r.guards] : List (List AM)) 0 = some r.needs := rfl
  have i1 : An ([r.needs, r.guards] : List (List AM)) 1 = some r.guards := rfl
  have s1 : BW b r (0, []) = some (.inl (1, c1)) := by
   simp only [BW, i0, Option.bind_some]; rw [e1]; rfl
  have s2 : BW b r (1, c1) = some (.inl (2, c2)) := by
   simp only [BW, i1, Option.bind_some]; rw [e2]; rfl
  rw [B2 s1, B2 s2]
  exact B7 rfl
 obtain ⟨t, ht, rfl⟩ : ∃ t, AP (Cd b r) (0, []) = some t /\ t = true := by
  refine B9 (l := r.steps) (fun j c => ∀ e, (AZ c e).getD false = decide (e ∈ (r.steps.take j).map (·.elem))) (fun c hc => ?_) (fun j s c hj hc => ?_) (c := []) (fun e => by simp [AZ])
  .rw [List.take_length] at hc
   refine ⟨true, ?_, rfl⟩
   have l2 : AP (CP b r ((r.steps.length : Int), c)) 0 = some true := AAD (l := r.zone) (by simp only [CP, Bw, cond_false, l3]; rfl) (fun i e he => by
    have := BY he
    obtain ⟨z1, z2, z3⟩ := h.zone e (List.mem_of_getElem? he)
    simp only [CP, BS he, cond_true, Af, he, Option.bind_some, PX, decide_eq_true z1, decide_eq_true z2, Bool.and_self, Bool.not_true, cond_false, hc, decide_eq_false z3, AT (show i < 1000000000 by omega)])
   simp only [Cd, Bw, cond_false, l2]; rfl
  have := BY hj
  obtain ⟨s1, s2⟩ := h.step s (List.mem_of_getElem? hj)
  have hnew : s.elem ∉ (r.steps.take j).map (·.elem) := by
   intro hm
   obtain ⟨x, hx, hxe⟩ := List.mem_map.1 hm
   obtain ⟨i, hi, hie⟩ := Nh hx
   have a1 : (r.steps.map (·.elem))[i]? = some s.elem := by rw [List.getElem?_map, hie]; simp [hxe]
   have a2 : (r.steps.map (·.elem))[j]? = some s.elem := by rw [List.getElem?_map, hj]; rfl
   have := (List.getElem?_inj (BY a1) h.once).1 (a1.trans a2.symm)
   omega
  refine .inr ⟨A5 s.elem true c, ?_, fun e => ?_⟩
  .simp only [Cd, BS hj, cond_true, Af, hj, Option.bind_some, PX, decide_eq_true s1, decide_eq_true s2, Bool.and_self, Bool.not_true, cond_false, hc, decide_eq_false hnew, AT (show j < 1000000000 by omega)]
  rw [DE, DF hj]
  by_cases he : e = s.elem
  .simp [he]
  rw [if_neg he, hc]; simp only [List.mem_append, List.mem_singleton, he, or_false]
 exact ht
end Go.E
/- Plain Lean: what may be taken from a book of none, and beside one road (May, Take). No condition. -/
namespace Go.E
open Go
theorem Ie {α β : Type} {l : List α} {step : Int -> Option (Int ⊕ β)} (bad : α -> Bool) (x : β) (fin : Option β) (h0 : step (l.length : Int) = fin.map .inr)
  (h1 : ∀ (i : Nat) a, l[i]? = some a -> step (i : Int) = bif bad a then some (.inr x) else some (.inl ((i + 1 : Nat) : Int))) : AP step 0 = if l.any bad = true then some x else fin := by
 refine Ir (γ := Unit) l (fun i _ => (i : Int)) (fun _ _ r => if r.any bad = true then some x else fin) (fun _ => ?_) (fun i _ a r ha hi => ?_) ()
 .rw [h0]; simp
 cases hb : bad a with
 | true => left; rw [h1 i a ha, hb]; simp [hb]
 | false => right; exact ⟨(), by rw [h1 i a ha, hb]; rfl, by simp [hb]⟩
def JQ (ow : Int -> Int) (zo : Int -> List Int) (po : Int -> Int) (r : AU) : Int :=
 if (r.steps.any fun s => decide (0 <= ow s.elem) || decide (0 < ((zo s.elem).length : Int))) = true then 14 else if (r.zone.any fun e => decide (0 <= ow e)) = true then 14 else
  if (r.needs.any fun x => (po x.elem != 0) && (po x.elem != x.pos)) = true then 15 else if (r.guards.any fun x => (po x.elem != 0) && (po x.elem != x.pos)) = true then 15 else 0
theorem RG (b : AY) (o : Int) (r : AU) (hr : Cu b.elems r) (ho : 0 <= o) (hh : BZ b o = some false) {ow : Int -> Int} {zo : Int -> List Int} {po : Int -> Int}
  (hO : ∀ e, Bh b e = some (ow e)) (hZ : ∀ e, CM b e = some (zo e)) (hH : ∀ e, ∃ k, Bs b e = some (po e, k)) : BG b o r = some (JQ ow zo po r) := by
 have h2 := hr.ls; have h3 := hr.ln; have h4 := hr.lg; have h5 := hr.lz
 unfold BG
 simp only [decide_eq_false (show ¬ o < 0 by omega), cond_false, hh, Option.bind_some, UK b r hr, Bool.not_true]
 have l4 : ∀ (l : List AM) (i : Nat), l.length <= 1000 -> i <= 2 -> AP (Ct b (i : Int) l) 0 = if (l.any fun x => (po x.elem != 0) && (po x.elem != x.pos)) = true then some (.inr 15) else some (.inl ((i + 1 : Nat) : Int)) := by
  intro l i hl hi
  refine Ie (l := l) _ _ _ (by simp only [Ct, Bw, cond_false, AT (show i < 1000000000 by omega)]; rfl) (fun j x hx => ?_)
  have := BY hx
  obtain ⟨k, hk⟩ := hH x.elem
  simp only [Ct, BS hx, cond_true, Af, hx, Option.bind_some, hk, AT (show j < 1000000000 by omega)]
  cases (po x.elem != 0) <;> rfl
 have i0 : An ([r.needs, r.guards] : List (List AM)) 0 = some r.needs := rfl
 have i1 : An ([r.needs, r.guards] : List (List AM)) 1 = some r.guards := rfl
 have s0 : CQ b r 0 = AP (Ct b ((0 : Nat) : Int) r.needs) 0 := by
  simp only [CQ, i0, Option.bind_some]; rfl
 have s1 : CQ b r 1 = AP (Ct b ((1 : Nat) : Int) r.guards) 0 := by
  simp only [CQ, i1, Option.bind_some]; rfl
 have l3 : AP (CQ b r) 0 = some (if (r.needs.any fun x => (po x.elem != 0) && (po x.elem != x.pos)) = true then 15 else if (r.guards.any fun x => (po x.elem != 0) && (po x.elem != x.pos)) = true then 15 else 0) := by
  rw [l4 _ 0 h3 (by omega)] at s0
  rw [l4 _ 1 h4 (by omega)] at s1
  by_cases c : (r.needs.any fun x => (po x.elem != 0) && (po x.elem != x.pos)) = true
  .rw [if_pos c] at s0 ⊢
   exact B7 s0
  rw [if_neg c] at s0 ⊢
  rw [B2 s0]
  show AP (CQ b r) 1 = _
  by_cases c2 : (r.guards.any fun x => (po x.elem != 0) && (po x.elem != x.pos)) = true
  .rw [if_pos c2] at s1 ⊢
   exact B7 s1
  rw [if_neg c2] at s1 ⊢
  rw [B2 s1]
  exact B7 rfl
 have l2 := Ie (l := r.zone) (step := DN b r) (fun e => decide (0 <= ow e)) 14 (AP (CQ b r) 0) (by simp only [DN, Bw, cond_false]) (fun i e he => by
  have := BY he
  simp only [DN, BS he, cond_true, Af, he, Option.bind_some, hO, AT (show i < 1000000000 by omega)])
 have l1 := Ie (l := r.steps) (step := D5 b r) (fun s => decide (0 <= ow s.elem) || decide (0 < ((zo s.elem).length : Int))) 14 (AP (DN b r) 0) (by simp only [D5, Bw, cond_false]) (fun i s hs => by
  have := BY hs
  simp only [D5, BS hs, cond_true, Af, hs, Option.bind_some, hO, hZ, AT (show i < 1000000000 by omega)]
  cases decide (0 <= ow s.elem) <;> rfl)
 rw [l1, l2, l3]
 unfold JQ
 repeat' split
 all_goals rfl
theorem R3 (b : AY) (o : Int) (r : AU) {e : Int} (h : BG b o r = some e) (he : e ≠ 0) : BO b o r = some (b, e) := by
 have he' : (e != 0) = true := bne_iff_ne.2 he
 unfold BO
 rw [h]
 simp only [Option.bind_some, he', cond_true]
theorem P9 (b : AY) (o : Int) (r : AU) (hr : Cu b.elems r) (h : BG b o r = some 0) :
  BO b o r = some (⟨b.elems, A5 o (r.steps.map (·.elem)) b.steps, A5 o r.zone b.zone, A5 o r.needs b.needs, A5 o r.guards b.guards⟩, 0) := by
 have h2 := hr.ls; have h3 := hr.ln; have h4 := hr.lg; have h5 := hr.lz
 unfold BO
 rw [h]
 simp only [Option.bind_some, bne_self_eq_false, cond_false]
 obtain ⟨t, ht, rfl⟩ := B9 (l := r.steps) (step := Dn b o r) (Post := fun t => t = (⟨b.elems, A5 o (r.steps.map (·.elem)) b.steps, A5 o r.zone b.zone, A5 o r.needs b.needs, A5 o r.guards b.guards⟩, 0)) (fun i c => c = (r.steps.take i).map (·.elem)) (fun c hc => by
   rw [List.take_length] at hc
   subst hc
   have c1 : CF r.zone = some r.zone := EI _ (by omega)
   have c2 : BU r.needs = some r.needs := EI _ (by omega)
   have c3 : BU r.guards = some r.guards := EI _ (by omega)
   exact ⟨_, by simp only [Dn, Bw, cond_false, c1, c2, c3, Option.bind_some, Option.map_some], rfl⟩) (fun i a c ha hc => by
   subst hc
   have := BY ha
   refine .inr ⟨_, ?_, (DF ha).symm⟩
   simp only [Dn, BS ha, cond_true, Af, ha, Option.bind_some, A2 (l := (r.steps.take i).map (·.elem)) (m := [a.elem]) (by simp; omega), AT (show i < 1000000000 by omega)]) (c := []) rfl
 exact ht
def PU (n : Int) : AY := ⟨n, [], [], [], []⟩
def Db (n a : Int) (r : AU) : AY := ⟨n, [(a, r.steps.map (·.elem))], [(a, r.zone)], [(a, r.needs)], [(a, r.guards)]⟩
def UE (a c : AU) : Int := JQ (fun e => if e ∈ a.steps.map (·.elem) then 0 else -1) (fun e => if e ∈ a.zone then [0] else []) (fun e => (Cj (a.needs ++ a.guards) e).getD 0) c
theorem ABd (n o : Int) (r : AU) (hr : Cu n r) (ho : 0 <= o) : BO (PU n) o r = some (Db n o r, 0) := by
 have h := RG (PU n) o r hr ho rfl (ow := fun _ => -1) (zo := fun _ => []) (po := fun _ => 0)
  (fun e => by rw [Nc _ _ (fun p hp => by cases hp) (fun p hp => by cases hp)]; rfl)
  (fun e => by rw [Nd _ _ (by simp [PU]) (fun p hp => by cases hp)]; rfl)
  (fun e => ⟨0, by rw [PT _ _ (by simp [PU]) (fun p hp => by cases hp) (fun x hx => by cases hx)]; rfl⟩)
 have h0 : JQ (fun _ => -1) (fun _ => []) (fun _ => 0) r = 0 := by
  unfold JQ
  simp
 rw [h0] at h
 rw [P9 (PU n) o r hr h]
 rfl
theorem AAE {ow ow' : Int -> Int} {zo zo' : Int -> List Int} {po : Int -> Int} (r : AU) (h1 : ∀ e, (0 <= ow e ↔ 0 <= ow' e)) (h2 : ∀ e, (zo e).length = (zo' e).length) : JQ ow zo po r = JQ ow' zo' po r := by
 unfold JQ
 have e1 : ∀ e, decide (0 <= ow e) = decide (0 <= ow' e) := fun e => decide_eq_decide.2 (h1 e)
 simp only [e1, h2]
theorem AAi (n o q : Int) (a c : AU) (ha : Cu n a) (hc : Cu n c) (ho : 0 <= o) (hq : 0 <= q) (hne : q ≠ o) : BG (Db n o a) q c = some (UE a c) := by
 have hN : Co (Db n o a) = fun e m => m.filterMap fun p => Cj (HW (Db n o a) p.1) e := rfl
 have hall : HW (Db n o a) o = a.needs ++ a.guards := by simp [HW, Db, AZ]
 have h := RG (Db n o a) q c hc hq (by
   have : (q == o) = false := beq_eq_false_iff_ne.2 hne
   unfold BZ
   simp only [Db, AZ, this, Bool.false_eq_true, if_false, Option.getD_none]
   rfl) (ow := fun e => if e ∈ a.steps.map (·.elem) then o else -1) (zo := fun e => if e ∈ a.zone then [o] else []) (po := fun e => (Cj (a.needs ++ a.guards) e).getD 0)
  (fun e => by
   rw [Nc _ _ (fun p hp p' hp' _ _ => by simp [Db] at hp hp'; rw [hp, hp']) (fun p hp => by simp [Db] at hp; subst hp; have := ha.ls; simp; omega)]
   by_cases he : e ∈ a.steps.map (·.elem)
   .simp only [if_pos he]
    rw [R9 (q := (o, a.steps.map (·.elem))) (fun p hp p' hp' _ _ => by simp [Db] at hp hp'; rw [hp, hp']) (by simp [Db]) he]
   simp only [if_neg he]
   rw [SA fun p hp => by simp only [Db, List.mem_singleton] at hp; subst hp; exact he])
  (fun e => by
   rw [Nd _ _ (by simp [Db]) (fun p hp => by simp [Db] at hp; subst hp; have := ha.lz; simp; omega)]
   by_cases he : e ∈ a.zone
   .simp only [if_pos he, QD, Db, List.filter_cons, decide_eq_true he]; rfl
   simp only [if_neg he, QD, Db, List.filter_cons, decide_eq_false he]; rfl)
  (fun e => by
   have hL : Co (Db n o a) e (Db n o a).needs = (Cj (a.needs ++ a.guards) e).toList := by
    show [(o, a.needs)].filterMap _ = _
    simp only [List.filterMap_cons, List.filterMap_nil, hall]
    cases Cj (a.needs ++ a.guards) e <;> rfl
   refine ⟨((Cj (a.needs ++ a.guards) e).toList.length : Int), (PT _ _ (by simp [Db]) (fun p hp => ?_) (fun x hx y hy => ?_)).trans ?_⟩
   .simp only [Db, List.mem_singleton] at hp
    subst hp
    have := ha.ln; have := ha.lg
    simp [Db, AZ]; omega
   .rw [hL] at hx hy
    cases hf : Cj (a.needs ++ a.guards) e with
    | none => rw [hf] at hx; cases hx
    | some v => rw [hf] at hx hy; simp at hx hy; rw [hx, hy]
   rw [hL]
   cases Cj (a.needs ++ a.guards) e <;> rfl)
 rw [AAE (ow' := fun e => if e ∈ a.steps.map (·.elem) then 0 else -1) (zo' := fun e => if e ∈ a.zone then [0] else []) c (fun e => by split <;> omega) (fun e => by split <;> rfl)] at h
 exact h
end Go.E
/- Plain Lean: which of two roads is refused beside the other, as the book and as the document say; LockClash. No condition. -/
namespace Go.E
open Go
def Y1 (a c : AU) : Prop := (∃ s ∈ c.steps, s.elem ∈ a.steps.map (·.elem) \/ s.elem ∈ a.zone) \/ ∃ e ∈ c.zone, e ∈ a.steps.map (·.elem)
def Y2 (a c : AU) : Prop := ∃ x ∈ c.needs ++ c.guards, ∃ y ∈ a.needs ++ a.guards, y.elem = x.elem /\ y.pos ≠ x.pos
theorem Y1.symm {a c : AU} (h : Y1 a c) : Y1 c a := by
 rcases h with ⟨s, hs, h | h⟩ | ⟨e, he, h⟩
 .obtain ⟨t, ht, e⟩ := List.mem_map.1 h
  exact .inl ⟨t, ht, .inl (e ▸ List.mem_map_of_mem hs)⟩
 .exact .inr ⟨s.elem, h, List.mem_map_of_mem hs⟩
 obtain ⟨t, ht, e2⟩ := List.mem_map.1 h
 exact .inl ⟨t, ht, .inr (e2 ▸ he)⟩
theorem Y2.symm {a c : AU} (h : Y2 a c) : Y2 c a := by
 obtain ⟨x, hx, y, hy, e1, e2⟩ := h
 exact ⟨y, hy, x, hx, e1.symm, fun e => e2 e.symm⟩
theorem KV {l : List AM} {e v : Int} (h : Cj l e = some v) : ∃ y ∈ l, y.elem = e /\ y.pos = v := by
 unfold Cj at h
 obtain ⟨y, hy, rfl⟩ := Option.map_eq_some_iff.1 h
 exact ⟨y, List.mem_of_find?_eq_some hy, by simpa using List.find?_some hy, rfl⟩
theorem Xu {l : List AM} {e : Int} (h : Cj l e = none) : ∀ y ∈ l, y.elem ≠ e := by
 unfold Cj at h
 intro y hy he
 have := List.find?_eq_none.1 (Option.map_eq_none_iff.1 h) y hy
 simp [he] at this
end Go.E
/- Plain Lean: two roads of a plan, each taken first (LockClash). No condition. -/
namespace Go.E
open Go
theorem Yg (p : AO) : ∃ c e, Hy p = some (c, e) /\ (e = true -> Ce p /\ ∃ n, DG p n /\ (Ej p).1.length <= 64 /\ c = (Ej p).1.map (GJ n)) := by
 unfold Hy
 obtain ⟨b0, h1, h2⟩ := Wd p
 simp only [h1, Option.bind_some]
 cases b0 with
 | false => exact ⟨[], false, rfl, by simp⟩
 | true =>
  have hv := h2 rfl
  have hc := Wl h1
  obtain ⟨n, hN, hn⟩ := AAt p hv
  obtain ⟨c, e, e1, e2⟩ := Xs hv hn hc
  simp only [Bool.not_true, cond_false, e1, Option.bind_some]
  refine ⟨c.roads, (e == 0), rfl, fun h => ?_⟩
  obtain ⟨e3, rfl⟩ := e2 (by simpa using h)
  have hl : (Ej p).1.length <= 64 := by
   unfold Ej
   split
   .simp
   simp only; omega
  exact ⟨hv, n, hn, hl, rfl⟩
end Go.E
/- Plain Lean: the owners of a book, whatever the order. No condition. -/
namespace Go.E
open Go
def MY (b : AY) (o : Int) : Bool := decide (0 < Ae ((Ae ((((AZ b.steps o).getD []).length : Int) + (((AZ b.zone o).getD []).length : Int))) + (((AZ b.guards o).getD []).length : Int)))
def ZV (b : AY) : List Int := En ((b.steps.filter fun p => MY b p.1).map (·.1))
theorem SY (b : AY) (hm : b.steps.length < 1000000) : Cb b = some (ZV b) := by
 unfold Cb
 refine L4 (fun s => (s.1 ++ (s.2.filter fun p => MY b p.1).map (·.1)).Perm ((b.steps.filter fun p => MY b p.1).map (·.1))) (fun s hs h0 => ?_) (fun s j y hs hy => ?_) (by simp)
 .obtain ⟨a, r⟩ := s
  simp only at h0 hs
  subst h0
  have hp := hs
  simp only [List.filter_nil, List.map_nil, List.append_nil] at hp
  have hlen := hp.length_eq
  have h2 := List.length_filter_le (fun p => MY b p.1) b.steps
  rw [List.length_map] at hlen
  have e1 : JL a = some (En a) := by unfold JL; rw [if_pos (by omega)]
  simp only [FH, e1, Option.bind_some, Option.map_some, Pk hp]
  rfl
 obtain ⟨a, r⟩ := s
 simp only at hs hy ⊢
 have hp := JN hy
 have hlen := hs.length_eq
 have h3 := List.length_filter_le (fun p => MY b p.1) b.steps
 simp only [List.length_append, List.length_map] at hlen
 have hpf := ((hp.filter fun p => MY b p.1).map (·.1))
 have hh : BZ b y.1 = some (MY b y.1) := rfl
 simp only [Fo, hh, Option.bind_some]
 cases he : MY b y.1 with
 | true =>
  refine .inr ⟨(a ++ [y.1], r.eraseIdx j), ?_, rfl, ?_⟩
  .rw [A2 (by simp; omega)]; rfl
  rw [List.filter_cons_of_pos (by simpa using he)] at hpf
  simp only [List.append_assoc, List.singleton_append]
  exact (List.Perm.append_left a hpf).trans hs
 | false =>
  refine .inr ⟨(a, r.eraseIdx j), rfl, rfl, ?_⟩
  rw [List.filter_cons_of_neg (by simp [he])] at hpf
  exact (List.Perm.append_left a hpf).trans hs
end Go.E
/- Plain Lean: whether a road suits a book is answered of every road (right). No condition. -/
namespace Go.E
open Go
structure MU (r : AU) : Prop where
 ls : r.steps.length <= 1000
 ln : r.needs.length <= 1000
 lg : r.guards.length <= 1000
 lz : r.zone.length <= 1000
theorem Pm (b : AY) (r : AU) (h : MU r) : ∃ t, C8 b r = some t /\ (t = true -> Cu b.elems r) := by
 have h2 := h.ls; have h3 := h.ln; have h4 := h.lg; have h5 := h.lz
 unfold C8
 by_cases h0 : (r.steps.length : Int) = 0
 .exact ⟨false, by simp only [h0, beq_self_eq_true, cond_true], by simp⟩
 rw [beq_eq_false_iff_ne.2 h0]
 simp only [cond_false]
 have one4 : ∀ (i : Nat) (l done : List AM) (s : Int × List (Int × Int)), s.1 = (i : Int) -> i <= 2 -> l.length <= 1000 -> (∀ x ∈ done, (0 <= x.elem /\ x.elem < b.elems) /\ (x.pos = 1 \/ x.pos = 2)) -> Nl done -> (∀ x ∈ done, AZ s.2 x.elem = some x.pos) -> (∀ k v, AZ s.2 k = some v -> ∃ x ∈ done, x.elem = k /\ x.pos = v) ->
   ∃ t, AP (CC b s l) (0, s.2) = some t /\ (t = .inr false \/ ∃ c', t = .inl (((i + 1 : Nat) : Int), c') /\ (∀ x ∈ done ++ l, (0 <= x.elem /\ x.elem < b.elems) /\ (x.pos = 1 \/ x.pos = 2)) /\ Nl (done ++ l) /\ (∀ x ∈ done ++ l, AZ c' x.elem = some x.pos) /\ ∀ k v, AZ c' k = some v -> ∃ x ∈ done ++ l, x.elem = k /\ x.pos = v) := by
  intro i l done s hs hi hl hx hc hI hJ
  refine B9 (l := l) (fun j c => (∀ x ∈ done ++ l.take j, (0 <= x.elem /\ x.elem < b.elems) /\ (x.pos = 1 \/ x.pos = 2)) /\ Nl (done ++ l.take j) /\ (∀ x ∈ done ++ l.take j, AZ c x.elem = some x.pos) /\ ∀ k v, AZ c k = some v -> ∃ x ∈ done ++ l.take j, x.elem = k /\ x.pos = v) (fun c hc' => ?_) (fun j x c hj hc' => ?_) (c := s.2) (by simpa using ⟨hx, hc, hI, hJ⟩)
  .rw [List.take_length] at hc'
   exact ⟨_, by simp only [CC, Bw, cond_false, hs, AT (show i < 1000000000 by omega)], .inr ⟨c, rfl, hc'⟩⟩
  have hjl := BY hj
  obtain ⟨d1, d2, d3, d4⟩ := hc'
  simp only [CC, BS hj, cond_true, Af, hj, Option.bind_some, PX, AT (show j < 1000000000 by omega)]
  by_cases x1 : 0 <= x.elem
  .by_cases x2 : x.elem < b.elems
   .simp only [decide_eq_true x1, decide_eq_true x2, Bool.and_self, Bool.not_true, cond_false]
    by_cases x3 : x.pos = 1 \/ x.pos = 2
    .have hp : ((bif (x.pos != 1) then bif (x.pos != 2) then some true else bif (AZ c x.elem).isSome then some (((AZ c x.elem).getD 0) != x.pos) else some false else bif (AZ c x.elem).isSome then some (((AZ c x.elem).getD 0) != x.pos) else some false : Option Bool)) = some ((AZ c x.elem).isSome && ((AZ c x.elem).getD 0 != x.pos)) := by
      rcases x3 with x3 | x3 <;> simp only [x3] <;> cases (AZ c x.elem).isSome <;> rfl
     rw [hp]
     simp only [Option.bind_some]
     cases hq : ((AZ c x.elem).isSome && ((AZ c x.elem).getD 0 != x.pos)) with
     | true => exact .inl ⟨_, rfl, .inl rfl⟩
     | false =>
      have e1 : l.take (j + 1) = l.take j ++ [x] := by rw [List.take_add_one, hj]; rfl
      have hold : ∀ y ∈ done ++ l.take j, y.elem = x.elem -> y.pos = x.pos := fun y hy he => by
       have := d3 y hy
       rw [he] at this
       rw [this] at hq
       simpa using hq
      have hmem : ∀ y, y ∈ done ++ l.take (j + 1) ↔ y ∈ done ++ l.take j \/ y = x := fun y => by
       rw [e1, <- List.append_assoc, List.mem_append, List.mem_singleton]
      refine .inr ⟨A5 x.elem x.pos c, rfl, fun y hy => ?_, fun y hy z hz he => ?_, fun y hy => ?_, fun k v hk => ?_⟩
      .rcases (hmem y).1 hy with hy | rfl
       .exact d1 y hy
       exact ⟨⟨x1, x2⟩, x3⟩
      .rcases (hmem y).1 hy with hy | rfl
       .rcases (hmem z).1 hz with hz | rfl
        .exact d2 y hy z hz he
        exact hold y hy he
       rcases (hmem z).1 hz with hz | rfl
       .exact (hold z hz he.symm).symm
       rfl
      .rw [DE]
       rcases (hmem y).1 hy with hy | rfl
       .by_cases he : y.elem = x.elem
        .rw [if_pos he, hold y hy he]
        rw [if_neg he]; exact d3 y hy
       rw [if_pos rfl]
      rw [DE] at hk
      by_cases he : k = x.elem
      .rw [if_pos he] at hk; cases hk
       exact ⟨x, (hmem x).2 (.inr rfl), he.symm, rfl⟩
      rw [if_neg he] at hk
      obtain ⟨y, hy, e2⟩ := d4 k v hk
      exact ⟨y, (hmem y).2 (.inl hy), e2⟩
    have y1 : (x.pos != 1) = true := bne_iff_ne.2 fun h => x3 (.inl h)
    have y2 : (x.pos != 2) = true := bne_iff_ne.2 fun h => x3 (.inr h)
    exact .inl ⟨_, by simp only [y1, y2, cond_true, Option.bind_some], .inl rfl⟩
   exact .inl ⟨_, by simp only [decide_eq_false x2, Bool.and_false, Bool.not_false, cond_true, Option.bind_some], .inl rfl⟩
  exact .inl ⟨_, by simp only [decide_eq_false x1, Bool.false_and, Bool.not_false, cond_true, Option.bind_some], .inl rfl⟩
 have i0 : An ([r.needs, r.guards] : List (List AM)) 0 = some r.needs := rfl
 have i1 : An ([r.needs, r.guards] : List (List AM)) 1 = some r.guards := rfl
 obtain ⟨t3, l3, p3⟩ : ∃ t, AP (BW b r) (0, []) = some t /\ (t = true -> (∀ x ∈ r.needs ++ r.guards, (0 <= x.elem /\ x.elem < b.elems) /\ (x.pos = 1 \/ x.pos = 2)) /\ Nl (r.needs ++ r.guards)) := by
  obtain ⟨u, e1, d⟩ := one4 0 r.needs [] (0, []) rfl (by omega) h3 (fun x hx => by cases hx) (fun x hx => by cases hx) (fun x hx => by cases hx) (fun k v hk => by simp [AZ] at hk)
  have s1 : BW b r (0, []) = some u := by
   simp only [BW, i0, Option.bind_some]; rw [e1]; rfl
  rcases d with rfl | ⟨c1, rfl, d1, d2, d3, d4⟩
  .exact ⟨false, B7 s1, by simp⟩
  simp only [List.nil_append] at d1 d2 d3 d4
  obtain ⟨u, e1, d⟩ := one4 1 r.guards r.needs (1, c1) rfl (by omega) h4 d1 d2 d3 d4
  have s2 : BW b r (1, c1) = some u := by
   simp only [BW, i1, Option.bind_some]; rw [e1]; rfl
  rw [B2 s1]
  show ∃ t, AP (BW b r) (1, c1) = some t /\ _
  rcases d with rfl | ⟨c2, rfl, d1, d2, -, -⟩
  .exact ⟨false, B7 s2, by simp⟩
  rw [B2 s2]
  exact ⟨true, B7 rfl, fun _ => ⟨d1, d2⟩⟩
 refine B9 (l := r.steps) (fun j c => (∀ e, (AZ c e).getD false = decide (e ∈ (r.steps.take j).map (·.elem))) /\ ((r.steps.take j).map (·.elem)).Nodup /\ ∀ s ∈ r.steps.take j, 0 <= s.elem /\ s.elem < b.elems) (fun c hc => ?_) (fun j s c hj hc => ?_) (c := []) ⟨fun e => by simp [AZ], by simp, by simp⟩
 .rw [List.take_length] at hc
  obtain ⟨c1, c2, c3⟩ := hc
  obtain ⟨t, ht, hp⟩ : ∃ t, AP (CP b r ((r.steps.length : Int), c)) 0 = some t /\ (t = true -> Cu b.elems r) := by
   refine Bm (l := r.zone) (fun _ e => 0 <= e /\ e < b.elems /\ e ∉ r.steps.map (·.elem)) (fun g => ⟨t3, by simp only [CP, Bw, cond_false, l3]; rfl, fun h' => ⟨by omega, h2, h3, h4, h5, c3, c2, fun e he => ?_, (p3 h').1, (p3 h').2⟩⟩) (fun i e he _ => ?_)
   .obtain ⟨i, hi⟩ := List.mem_iff_getElem?.1 he
    exact g i e hi
   have := BY he
   simp only [CP, BS he, cond_true, Af, he, Option.bind_some, PX, c1, AT (show i < 1000000000 by omega)]
   by_cases x1 : 0 <= e
   .by_cases x2 : e < b.elems
    .by_cases x3 : e ∈ r.steps.map (·.elem)
     .exact .inl ⟨false, by simp only [decide_eq_true x1, decide_eq_true x2, decide_eq_true x3, Bool.and_self, Bool.not_true, cond_false, Option.bind_some, cond_true], by simp⟩
     exact .inr ⟨by simp only [decide_eq_true x1, decide_eq_true x2, decide_eq_false x3, Bool.and_self, Bool.not_true, cond_false, Option.bind_some], x1, x2, x3⟩
    exact .inl ⟨false, by simp only [decide_eq_false x2, Bool.and_false, Bool.not_false, cond_true, Option.bind_some], by simp⟩
   exact .inl ⟨false, by simp only [decide_eq_false x1, Bool.false_and, Bool.not_false, cond_true, Option.bind_some], by simp⟩
  exact ⟨t, by simp only [Cd, Bw, cond_false, ht]; rfl, hp⟩
 obtain ⟨c1, c2, c3⟩ := hc
 have := BY hj
 simp only [Cd, BS hj, cond_true, Af, hj, Option.bind_some, PX, c1, AT (show j < 1000000000 by omega)]
 by_cases x1 : 0 <= s.elem
 .by_cases x2 : s.elem < b.elems
  .by_cases x3 : s.elem ∈ (r.steps.take j).map (·.elem)
   .exact .inl ⟨false, by simp only [decide_eq_true x1, decide_eq_true x2, decide_eq_true x3, Bool.and_self, Bool.not_true, cond_false, Option.bind_some, cond_true], by simp⟩
   refine .inr ⟨A5 s.elem true c, by simp only [decide_eq_true x1, decide_eq_true x2, decide_eq_false x3, Bool.and_self, Bool.not_true, cond_false, Option.bind_some], fun e => ?_, ?_, fun q hq => ?_⟩
   .rw [DE, DF hj]
    by_cases he : e = s.elem
    .simp [he]
    rw [if_neg he, c1]; simp only [List.mem_append, List.mem_singleton, he, or_false]
   .rw [DF hj, List.nodup_append]
    exact ⟨c2, by simp, fun x hx y hy e => by simp at hy; subst hy; subst e; exact x3 hx⟩
   rw [List.take_add_one, hj] at hq
   rcases List.mem_append.1 hq with hq | hq
   .exact c3 q hq
   simp at hq; subst hq; exact ⟨x1, x2⟩
  exact .inl ⟨false, by simp only [decide_eq_false x2, Bool.and_false, Bool.not_false, cond_true, Option.bind_some], by simp⟩
 exact .inl ⟨false, by simp only [decide_eq_false x1, Bool.false_and, Bool.not_false, cond_true, Option.bind_some], by simp⟩
end Go.E
/- Plain Lean: a book as a row of owners with what they hold; Has, Owner, Zones, Held, May, Take on it. No condition. -/
namespace Go.E
open Go
structure Bu where
 st : List Int
 zn : List Int
 nd : List AM
 gd : List AM
def bk (n : Int) (L : List (Int × Bu)) : AY := ⟨n, L.map fun p => (p.1, p.2.st), L.map fun p => (p.1, p.2.zn), L.map fun p => (p.1, p.2.nd), L.map fun p => (p.1, p.2.gd)⟩
def GH (r : AU) : Bu := ⟨r.steps.map (·.elem), r.zone, r.needs, r.guards⟩
structure Cf (L : List (Int × Bu)) : Prop where
 keys : (L.map (·.1)).Nodup
 pos : ∀ p ∈ L, 0 <= p.1
 len : L.length <= 1000
 small : ∀ p ∈ L, (p.2.st.length <= 1000 /\ p.2.zn.length <= 1000) /\ p.2.nd.length <= 1000 /\ p.2.gd.length <= 1000
 holds : ∀ p ∈ L, 0 < p.2.st.length + p.2.zn.length + p.2.gd.length
 apart : ∀ p ∈ L, ∀ q ∈ L, ∀ e, e ∈ p.2.st -> e ∈ q.2.st -> p.1 = q.1
 zone : ∀ p ∈ L, ∀ q ∈ L, ∀ e, e ∈ p.2.st -> e ∉ q.2.zn
 agree : ∀ p ∈ L, ∀ q ∈ L, ∀ x ∈ p.2.nd ++ p.2.gd, ∀ y ∈ q.2.nd ++ q.2.gd, x.elem = y.elem -> x.pos = y.pos
 posn : ∀ p ∈ L, ∀ x ∈ p.2.nd ++ p.2.gd, x.pos = 1 \/ x.pos = 2
theorem CV {α : Type} {L : List (Int × Bu)} (f : Bu -> α) (hk : (L.map (·.1)).Nodup) {p : Int × Bu} (hp : p ∈ L) : AZ (L.map fun p => (p.1, f p.2)) p.1 = some (f p.2) := by
 induction L with
 | nil => cases hp
 | cons q L ih =>
  simp only [List.map_cons, List.nodup_cons] at hk
  simp only [List.map_cons, AZ]
  rcases List.mem_cons.1 hp with rfl | hp
  .simp
  have : ¬ p.1 = q.1 := fun e => hk.1 (e ▸ List.mem_map_of_mem hp)
  rw [if_neg (by simpa using this)]
  exact ih hk.2 hp
theorem L6 {α : Type} {L : List (Int × Bu)} (f : Bu -> α) {o : Int} (ho : o ∉ L.map (·.1)) : AZ (L.map fun p => (p.1, f p.2)) o = none := by
 induction L with
 | nil => rfl
 | cons q L ih =>
  simp only [List.map_cons, List.mem_cons, not_or] at ho
  simp only [List.map_cons, AZ]
  rw [if_neg (by simpa using ho.1)]
  exact ih ho.2
theorem Nz {α : Type} {L : List (Int × Bu)} (f : Bu -> α) {o : Int} (v : α) (ho : o ∉ L.map (·.1)) : A5 o v (L.map fun p => (p.1, f p.2)) = (L.map fun p => (p.1, f p.2)) ++ [(o, v)] := by
 induction L with
 | nil => rfl
 | cons q L ih =>
  simp only [List.map_cons, List.mem_cons, not_or] at ho
  simp only [List.map_cons, A5, List.cons_append]
  rw [if_neg (by simpa using ho.1), ih ho.2]
variable {n : Int} {L : List (Int × Bu)}
theorem L8 (hI : Cf L) (o : Int) : BZ (bk n L) o = some (decide (o ∈ L.map (·.1))) := by
 unfold BZ
 refine congrArg some (decide_eq_decide.2 ?_)
 simp only [bk]
 by_cases ho : o ∈ L.map (·.1)
 .obtain ⟨p, hp, rfl⟩ := List.mem_map.1 ho
  obtain ⟨⟨s1, s2⟩, s3, s4⟩ := hI.small p hp
  have s5 := hI.holds p hp
  rw [CV (·.st) hI.keys hp, CV (·.zn) hI.keys hp, CV (·.gd) hI.keys hp]
  simp only [Option.getD_some]
  rw [CL (n := (p.2.st.length : Int) + (p.2.zn.length : Int)) (by omega) (by omega), CL (n := (p.2.st.length : Int) + (p.2.zn.length : Int) + (p.2.gd.length : Int)) (by omega) (by omega)]
  exact ⟨fun _ => ho, fun _ => by omega⟩
 rw [L6 (·.st) ho, L6 (·.zn) ho, L6 (·.gd) ho]
 exact ⟨fun h => absurd h (by decide), fun h => absurd h ho⟩
def Jw (L : List (Int × Bu)) (e : Int) : Int := P8 (L.map fun p => (p.1, p.2.st)) e
theorem ZW (hI : Cf L) (e : Int) : Y0 (L.map fun p => (p.1, p.2.st)) e := by
 intro a ha b hb h1 h2
 obtain ⟨p, hp, rfl⟩ := List.mem_map.1 ha
 obtain ⟨q, hq, rfl⟩ := List.mem_map.1 hb
 exact hI.apart p hp q hq e h1 h2
theorem Ry (hI : Cf L) (e : Int) : Bh (bk n L) e = some (Jw L e) := Nc (bk n L) e (ZW hI e) (fun a ha => by
 obtain ⟨p, hp, rfl⟩ := List.mem_map.1 ha
 have := (hI.small p hp).1.1
 simp only; omega)
theorem Vd (hI : Cf L) {e : Int} {p : Int × Bu} (hp : p ∈ L) (he : e ∈ p.2.st) : Jw L e = p.1 := R9 (ZW hI e) (q := (p.1, p.2.st)) (List.mem_map.2 ⟨p, hp, rfl⟩) he
theorem Vc {e : Int} (h : ∀ p ∈ L, e ∉ p.2.st) : Jw L e = -1 := SA fun a ha => by
 obtain ⟨p, hp, rfl⟩ := List.mem_map.1 ha
 exact h p hp
theorem SB (hI : Cf L) (e : Int) : 0 <= Jw L e ↔ ∃ p ∈ L, e ∈ p.2.st := by
 constructor
 .intro h
  refine Classical.byContradiction fun hn => ?_
  rw [Vc fun p hp he => hn ⟨p, hp, he⟩] at h
  exact absurd h (by decide)
 rintro ⟨p, hp, he⟩
 rw [Vd hI hp he]
 exact hI.pos p hp
def Jv (L : List (Int × Bu)) (e : Int) : List Int := QD (L.map fun p => (p.1, p.2.zn)) e
theorem Rz (hI : Cf L) (e : Int) : CM (bk n L) e = some (Jv L e) := Nd (bk n L) e (by have := hI.len; simp [bk]; omega) (fun a ha => by
 obtain ⟨p, hp, rfl⟩ := List.mem_map.1 ha
 have := (hI.small p hp).1.2
 simp only; omega)
theorem AAF (e : Int) : 0 < (Jv L e).length ↔ ∃ p ∈ L, e ∈ p.2.zn := by
 unfold Jv QD
 rw [(Dc _).length_eq, List.length_map, List.length_pos_iff_exists_mem]
 constructor
 .rintro ⟨a, ha⟩
  obtain ⟨h1, h2⟩ := List.mem_filter.1 ha
  obtain ⟨p, hp, rfl⟩ := List.mem_map.1 h1
  exact ⟨p, hp, by simpa using h2⟩
 rintro ⟨p, hp, he⟩
 exact ⟨(p.1, p.2.zn), List.mem_filter.2 ⟨List.mem_map.2 ⟨p, hp, rfl⟩, by simpa using he⟩⟩
theorem ABB (hI : Cf L) {p : Int × Bu} (hp : p ∈ L) : HW (bk n L) p.1 = p.2.nd ++ p.2.gd := by
 unfold HW
 simp only [bk]
 rw [CV (·.nd) hI.keys hp, CV (·.gd) hI.keys hp]
 rfl
def Gk (L : List (Int × Bu)) (e : Int) : Int := (L.filterMap fun p => Cj (p.2.nd ++ p.2.gd) e).headD 0
def WT (L : List (Int × Bu)) (e : Int) : Int := ((L.filterMap fun p => Cj (p.2.nd ++ p.2.gd) e).length : Int)
theorem AAG (hI : Cf L) (e : Int) : Co (bk n L) e (bk n L).needs = L.filterMap fun p => Cj (p.2.nd ++ p.2.gd) e := by
 unfold Co
 show List.filterMap _ (L.map fun p => (p.1, p.2.nd)) = _
 rw [List.filterMap_map]
 have : ∀ M : List (Int × Bu), (∀ p ∈ M, p ∈ L) -> M.filterMap ((fun p : Int × List AM => Cj (HW (bk n L) p.1) e) ∘ fun p => (p.1, p.2.nd)) = M.filterMap fun p => Cj (p.2.nd ++ p.2.gd) e := by
  intro M
  induction M with
  | nil => intro _; rfl
  | cons q M ih =>
   intro h
   simp only [List.filterMap_cons, Function.comp, ABB (n := n) hI (h q (by simp))]
   have := ih fun p hp => h p (List.mem_cons_of_mem _ hp)
   rw [<- this]
 exact this L fun p hp => hp
theorem UL (hI : Cf L) (e : Int) : Bs (bk n L) e = some (Gk L e, WT L e) := by
 have hh := AAG (n := n) hI e
 rw [PT (bk n L) e (by have := hI.len; simp [bk]; omega) (fun a ha => ?_) (fun x hx y hy => ?_), hh]
 .rfl
 .obtain ⟨p, hp, rfl⟩ := List.mem_map.1 ha
  obtain ⟨-, s3, s4⟩ := hI.small p hp
  simp only [bk]
  rw [CV (·.nd) hI.keys hp, CV (·.gd) hI.keys hp]
  simp only [Option.getD_some]; omega
 rw [hh] at hx hy
 obtain ⟨p, hp, h1⟩ := List.mem_filterMap.1 hx
 obtain ⟨q, hq, h2⟩ := List.mem_filterMap.1 hy
 obtain ⟨a, ha, a1, a2⟩ := KV h1
 obtain ⟨b, hb, b1, b2⟩ := KV h2
 rw [<- a2, <- b2]
 exact hI.agree p hp q hq a ha b hb (a1.trans b1.symm)
theorem AAH (hI : Cf L) {p : Int × Bu} (hp : p ∈ L) {x : AM} (hx : x ∈ p.2.nd ++ p.2.gd) : Gk L x.elem = x.pos := by
 unfold Gk
 cases hl : L.filterMap fun p => Cj (p.2.nd ++ p.2.gd) x.elem with
 | nil =>
  cases hf : Cj (p.2.nd ++ p.2.gd) x.elem with
  | none => exact absurd rfl (Xu hf x hx)
  | some v =>
   have : v ∈ L.filterMap fun p => Cj (p.2.nd ++ p.2.gd) x.elem := List.mem_filterMap.2 ⟨p, hp, hf⟩
   rw [hl] at this; cases this
 | cons v l =>
  have : v ∈ L.filterMap fun p => Cj (p.2.nd ++ p.2.gd) x.elem := by rw [hl]; simp
  obtain ⟨q, hq, h1⟩ := List.mem_filterMap.1 this
  obtain ⟨a, ha, a1, a2⟩ := KV h1
  simp only [List.headD_cons]
  rw [<- a2]
  exact hI.agree q hq p hp a ha x hx a1
def AAw (n : Int) (L : List (Int × Bu)) (r : AU) : Int := JQ (Jw L) (Jv L) (Gk L) r
theorem AAy (hI : Cf L) (hl : L.length < 1000) (o : Int) (ho : 0 <= o) (r : AU) (hr : MU r) :
  ∃ v, BG (bk n L) o r = some v /\ BO (bk n L) o r = some (bk n (if v = 0 then L ++ [(o, GH r)] else L), v) /\ (v = 0 -> Cf (L ++ [(o, GH r)]) /\ o ∉ L.map (·.1) /\ Cu n r) := by
 obtain ⟨t, ht, hR⟩ := Pm (bk n L) r hr
 have arg : BG (bk n L) o r = some 1 -> ∃ v, BG (bk n L) o r = some v /\ BO (bk n L) o r = some (bk n (if v = 0 then L ++ [(o, GH r)] else L), v) /\ (v = 0 -> Cf (L ++ [(o, GH r)]) /\ o ∉ L.map (·.1) /\ Cu n r) := fun h =>
  ⟨1, h, by rw [if_neg (by decide)]; exact R3 _ _ _ h (by decide), fun h => absurd h (by decide)⟩
 by_cases hm : o ∈ L.map (·.1)
 .refine arg ?_
  unfold BG
  simp only [decide_eq_false (show ¬ o < 0 by omega), cond_false, L8 hI, decide_eq_true hm, Option.bind_some, cond_true]
 cases t with
 | false =>
  refine arg ?_
  unfold BG
  simp only [decide_eq_false (show ¬ o < 0 by omega), cond_false, L8 hI, decide_eq_false hm, Option.bind_some, ht, Bool.not_false, cond_true]
 | true =>
  have hP : Cu n r := hR rfl
  have hmay := RG (bk n L) o r hP ho (by rw [L8 hI, decide_eq_false hm]) (Ry hI) (Rz hI) (fun e => ⟨_, UL hI e⟩)
  refine ⟨_, hmay, ?_, fun h0 => ?_⟩
  .by_cases h0 : JQ (Jw L) (Jv L) (Gk L) r = 0
   .rw [if_pos h0]
    rw [h0] at hmay ⊢
    rw [P9 (bk n L) o r hP hmay]
    simp only [bk, Nz (·.st) _ hm, Nz (·.zn) _ hm, Nz (·.nd) _ hm, Nz (·.gd) _ hm, List.map_append, List.map_cons, List.map_nil, GH]
   rw [if_neg h0]
   exact R3 _ _ _ hmay h0
  have noS : ∀ s ∈ r.steps, ¬ (0 <= Jw L s.elem) /\ ¬ (0 < (Jv L s.elem).length) := fun s hs => by
   unfold JQ at h0
   split at h0
   .exact absurd h0 (by decide)
   rename_i hc
   have : ¬ ((decide (0 <= Jw L s.elem) || decide (0 < ((Jv L s.elem).length : Int))) = true) := fun h => hc (List.any_eq_true.2 ⟨s, hs, h⟩)
   simp only [Bool.or_eq_true, decide_eq_true_eq, not_or] at this
   exact ⟨this.1, by omega⟩
  have noZ : ∀ e ∈ r.zone, ¬ (0 <= Jw L e) := fun e he => by
   unfold JQ at h0
   split at h0
   .exact absurd h0 (by decide)
   split at h0
   .exact absurd h0 (by decide)
   rename_i hc
   exact fun h => hc (List.any_eq_true.2 ⟨e, he, by simpa using h⟩)
  have noP : ∀ x ∈ r.needs ++ r.guards, Gk L x.elem = 0 \/ Gk L x.elem = x.pos := fun x hx => by
   unfold JQ at h0
   split at h0
   .exact absurd h0 (by decide)
   split at h0
   .exact absurd h0 (by decide)
   split at h0
   .exact absurd h0 (by decide)
   split at h0
   .exact absurd h0 (by decide)
   rename_i c1 c2
   have : ¬ (((Gk L x.elem != 0) && (Gk L x.elem != x.pos)) = true) := fun h => by
    rcases List.mem_append.1 hx with hx | hx
    .exact c1 (List.any_eq_true.2 ⟨x, hx, h⟩)
    exact c2 (List.any_eq_true.2 ⟨x, hx, h⟩)
   simp only [Bool.and_eq_true, bne_iff_ne, not_and, Decidable.not_not] at this
   by_cases hz : Gk L x.elem = 0
   .exact .inl hz
   exact .inr (this hz)
  have cross : ∀ p ∈ L, ∀ x ∈ p.2.nd ++ p.2.gd, ∀ y ∈ r.needs ++ r.guards, x.elem = y.elem -> x.pos = y.pos := fun p hp x hx y hy he => by
   have h1 := AAH hI hp hx
   have h2 := hI.posn p hp x hx
   have h3 := noP y hy
   rw [<- he, h1] at h3
   omega
  have m : ∀ p, p ∈ L ++ [(o, GH r)] ↔ p ∈ L \/ p = (o, GH r) := fun p => by rw [List.mem_append, List.mem_singleton]
  refine ⟨⟨?_, fun p hp => ?_, by rw [List.length_append]; simp; omega, fun p hp => ?_, fun p hp => ?_, fun p hp q hq e h1 h2 => ?_, fun p hp q hq e h1 h2 => ?_, fun p hp q hq x hx y hy he => ?_, fun p hp x hx => ?_⟩, hm, hP⟩
  .rw [List.map_append, List.nodup_append]
   exact ⟨hI.keys, by simp, fun a ha b hb e => by simp at hb; subst hb; subst e; exact hm ha⟩
  .rcases (m p).1 hp with hp | rfl
   .exact hI.pos p hp
   exact ho
  .rcases (m p).1 hp with hp | rfl
   .exact hI.small p hp
   exact ⟨⟨by simp [GH]; exact hr.ls, hr.lz⟩, hr.ln, hr.lg⟩
  .rcases (m p).1 hp with hp | rfl
   .exact hI.holds p hp
   have := hP.one; simp [GH]; omega
  .rcases (m p).1 hp with hp | rfl
   .rcases (m q).1 hq with hq | rfl
    .exact hI.apart p hp q hq e h1 h2
    obtain ⟨s, hs, rfl⟩ := List.mem_map.1 h2
    exact absurd ((SB hI _).2 ⟨p, hp, h1⟩) (noS s hs).1
   rcases (m q).1 hq with hq | rfl
   .obtain ⟨s, hs, rfl⟩ := List.mem_map.1 h1
    exact absurd ((SB hI _).2 ⟨q, hq, h2⟩) (noS s hs).1
   rfl
  .rcases (m p).1 hp with hp | rfl
   .rcases (m q).1 hq with hq | rfl
    .exact hI.zone p hp q hq e h1 h2
    exact noZ e h2 ((SB hI _).2 ⟨p, hp, h1⟩)
   obtain ⟨s, hs, rfl⟩ := List.mem_map.1 h1
   rcases (m q).1 hq with hq | rfl
   .exact (noS s hs).2 ((AAF _).2 ⟨q, hq, h2⟩)
   exact (hP.zone _ h2).2.2 h1
  .rcases (m p).1 hp with hp | rfl
   .rcases (m q).1 hq with hq | rfl
    .exact hI.agree p hp q hq x hx y hy he
    exact cross p hp x hx y hy he
   rcases (m q).1 hq with hq | rfl
   .exact (cross q hq y hy x hx he.symm).symm
   exact hP.cons x hx y hy he
  rcases (m p).1 hp with hp | rfl
  .exact hI.posn p hp x hx
  exact (hP.need x hx).2
end Go.E
/- Plain Lean: Drop and Owners on a row of owners; what is taken and dropped leaves no trace. No condition. -/
namespace Go.E
open Go
variable {n : Int} {L : List (Int × Bu)}
theorem RH {o : Int} : ∀ {L : List (Int × Bu)}, o ∉ L.map (·.1) -> L.filter (fun p => !(decide (p.1 = o))) = L := fun ho => List.filter_eq_self.2 fun p hp => by
 have : ¬ p.1 = o := fun e => ho (e ▸ List.mem_map_of_mem hp)
 simp [this]
theorem Mx {α : Type} (f : Bu -> α) (o : Int) : ∀ L : List (Int × Bu), (L.map (·.1)).Nodup -> Ed o (L.map fun p => (p.1, f p.2)) = (L.filter fun p => !(decide (p.1 = o))).map fun p => (p.1, f p.2)
 | [], _ => rfl
 | q :: L, hk => by
  simp only [List.map_cons, List.nodup_cons] at hk
  have ih := Mx f o L hk.2
  simp only [List.map_cons, Ed]
  by_cases h : o = q.1
  .rw [if_pos (by simpa using h), List.filter_cons_of_neg (by simp [h])]
   rw [RH (h ▸ hk.1)]
  have h' : ¬ q.1 = o := fun e => h e.symm
  rw [if_neg (by simpa using h), List.filter_cons_of_pos (by simp [h']), ih]
  rfl
theorem Xc (hI : Cf L) (o : Int) : Bt (bk n L) o = some (bk n (L.filter fun p => !(decide (p.1 = o))), decide (o ∈ L.map (·.1))) := by
 unfold Bt
 have hh : BZ ⟨(bk n L).elems, (bk n L).steps, (bk n L).zone, (bk n L).needs, (bk n L).guards⟩ o = some (decide (o ∈ L.map (·.1))) := L8 (n := n) hI o
 rw [hh]
 simp only [Option.bind_some]
 by_cases ho : o ∈ L.map (·.1)
 .rw [decide_eq_true ho]
  simp only [Bool.not_true, cond_false, bk, Mx _ _ _ hI.keys]
 rw [decide_eq_false ho]
 have : L.filter (fun p => !(decide (p.1 = o))) = L := List.filter_eq_self.2 fun p hp => by
  have : ¬ p.1 = o := fun e => ho (e ▸ List.mem_map_of_mem hp)
  simp [this]
 rw [this]
 rfl
theorem Cf.drop (hI : Cf L) (o : Int) : Cf (L.filter fun p => !(decide (p.1 = o))) := by
 have m : ∀ p ∈ L.filter (fun p => !(decide (p.1 = o))), p ∈ L := fun p hp => (List.mem_filter.1 hp).1
 refine ⟨?_, fun p hp => hI.pos p (m p hp), Nat.le_trans (List.length_filter_le _ _) hI.len, fun p hp => hI.small p (m p hp), fun p hp => hI.holds p (m p hp), fun p hp q hq => hI.apart p (m p hp) q (m q hq), fun p hp q hq => hI.zone p (m p hp) q (m q hq), fun p hp q hq => hI.agree p (m p hp) q (m q hq), fun p hp => hI.posn p (m p hp)⟩
 exact List.Sublist.nodup (List.Sublist.map _ List.filter_sublist) hI.keys
theorem Ye (hI : Cf L) : Cb (bk n L) = some (En (L.map (·.1))) := by
 have hl := hI.len
 rw [SY (bk n L) (by simp [bk]; omega)]
 refine congrArg some ?_
 unfold ZV
 have h1 : (bk n L).steps.filter (fun p => MY (bk n L) p.1) = (bk n L).steps := List.filter_eq_self.2 fun a ha => by
  have h2 : BZ (bk n L) a.1 = some (MY (bk n L) a.1) := rfl
  rw [L8 hI] at h2
  obtain ⟨p, hp, rfl⟩ := List.mem_map.1 ha
  have : (p.1 : Int) ∈ L.map (·.1) := List.mem_map_of_mem hp
  rw [decide_eq_true this] at h2
  exact (Option.some.inj h2).symm
 rw [h1]
 simp only [bk, List.map_map]
 rfl
end Go.E
/- Plain Lean: what is taken and dropped leaves no trace (LockBack). No condition. -/
namespace Go.E
open Go
theorem Yh {p : AO} {n : CX} (hv : Ce p) (hn : DG p n) {r : AU} (hr : r ∈ (Ej p).1) : MU (GJ n r) := by
 obtain ⟨s, hs⟩ := QE hr
 have hl := Is hs
 have hnd : r.needs.length <= 12 := (FL hs).2.2.2.2.2.2.2.2
 have hf := (My hv hn hl (show r.needs.length <= 1000 by omega)).2
 have hz := hf.zone.len
 have hlg := hf.lg
 exact ⟨by rw [hf.steps]; omega, by rw [hf.needs]; omega, by omega, by omega⟩
end Go.E
