/- Plain Lean: the flank of a road: what holds of zone, guards and holds; the search ends (laws FlankAgain, FlankApart). No condition. -/
import Derived.Test.YtilbadmonidmhaaGreatJ5
set_option linter.unusedVariables false
set_option linter.unusedSimpArgs false
namespace Go.E
open Go
section
variable {p : AN} {n : BL} {r : AO}
structure S4 (p : AN) (st : List AT) (z : List Int) : Prop where
 len : z.length <= 12
 nd : z.Nodup
 own : ∀ e ∈ z, e ∉ st.map (·.elem) /\ Ah p e ≠ 4
 rng : ∀ e ∈ z, Ah p e ≠ 0
structure V4 (p : AN) (st : List AT) (g : List AJ) : Prop where
 ok : ∀ m ∈ g, m.elem ∉ st.map (·.elem) /\ Ah p m.elem = 2 /\ (m.pos = 1 \/ m.pos = 2)
 nd : g.Pairwise (fun a b => a.elem ≠ b.elem)
theorem Yr {st : List AT} {b : Bool} {z : List Int} {e : Int} (h : S4 p st z) (h1 : e ∉ st.map (·.elem)) (h2 : Ah p e ≠ 4) (h3 : Ah p e ≠ 0) : S4 p st (BJ b z e).2.2 := by
 unfold BJ
 split
 .exact h
 rename_i hm
 split
 .exact h
 rename_i hl
 refine ⟨by simp; omega, ?_, fun a ha => ?_, fun a ha => ?_⟩
 .simp only
  rw [List.nodup_append]
  exact ⟨h.nd, by simp, fun a ha c hc => by simp at hc; subst hc; intro e; subst e; exact hm ha⟩
 .rcases List.mem_append.1 ha with ha | ha
  .exact h.own a ha
  simp at ha; subst ha; exact ⟨h1, h2⟩
 rcases List.mem_append.1 ha with ha | ha
 .exact h.rng a ha
 simp at ha; subst ha; exact h3
theorem FX {x y : AF} (h : Aw p x = some y) : y ∈ Bj p := MC h
theorem ME {l : List AF} {x y : AF} (h : y ∈ EE p l x) : y ∈ l \/ y ∈ Bj p := by
 unfold EE at h
 cases hx : Aw p x with
 | none => rw [hx] at h; exact .inl h
 | some z =>
  rw [hx] at h
  rcases List.mem_append.1 h with h | h
  .exact .inl h
  simp at h; subst h; exact .inr (FX hx)
structure FI (p : AN) (st : List AT) (M k : Nat) (vis : List (AF × Bool)) (g : List AJ) (z h : List Int) (l : List AF) : Prop where
 zok : S4 p st z
 gok : V4 p st g
 hold : p.hard = true -> h = []
 port : ∀ x ∈ l, x ∈ Bj p
 lg : g.length <= k
 lh : h.length <= k
 meas : k + l.length + 3 * GR p vis <= M
theorem SE (hv : CD p) {st : List AT} {nd : List AJ} {M k : Nat} {b : Bool} {vis : List (AF × Bool)} {g : List AJ} {z h : List Int} {l : List AF} {x : AF} (hi : FI p st M k vis g z h (l ++ [x])) {s : FS} (hs : s = LB p st nd b vis g z h l x) :
  FI p st M (k + 1) s.2.1 s.2.2.1 s.2.2.2.1 s.2.2.2.2.1 s.2.2.2.2.2 := by
 have hm := hi.meas
 simp only [List.length_append, List.length_cons, List.length_nil] at hm
 have hx : x ∈ Bj p := hi.port x (by simp)
 have hl : ∀ y ∈ l, y ∈ Bj p := fun y hy => hi.port y (by simp [hy])
 have hlg := hi.lg
 have hlh := hi.lh
 have hul := Xt (p := p) (vis := vis) x
 have hhas : Cg p x = true := by
  obtain ⟨i, hi⟩ := List.mem_iff_getElem?.1 hx
  exact hv.join.has i x hi
 unfold LB at hs
 by_cases c : x.elem ∈ st.map (·.elem) \/ BQ vis x = true
 .rw [if_pos c] at hs
  subst hs
  exact ⟨hi.zok, hi.gok, hi.hold, hl, by dsimp only; omega, by dsimp only; omega, by dsimp only; omega⟩
 rw [if_neg c] at hs
 have c1 : x.elem ∉ st.map (·.elem) := fun h => c (.inl h)
 have c2 : BQ vis x = false := by cases hs : BQ vis x with | false => rfl | true => exact absurd (.inr hs) c
 have hlt := RW hx c2
 by_cases k1 : 0 <= Ay p x /\ p.hard = false
 .rw [if_pos k1] at hs
  subst hs
  refine ⟨hi.zok, hi.gok, fun hh => (by rw [k1.2] at hh; cases hh), hl, by dsimp only; omega, ?_, by dsimp only; omega⟩
  dsimp only
  split
  .omega
  simp; omega
 rw [if_neg k1] at hs
 by_cases k4 : Ah p x.elem = 4
 .rw [if_pos k4] at hs
  subst hs
  exact ⟨hi.zok, hi.gok, hi.hold, hl, by dsimp only; omega, by dsimp only; omega, by dsimp only; omega⟩
 rw [if_neg k4] at hs
 have k0 : Ah p x.elem ≠ 0 := fun e => by
  obtain ⟨f1, f2, f3⟩ := Do hhas
  rw [e] at f3
  simp [CH] at f3
  omega
 have hz := Yr (b := b) hi.zok c1 k4 k0
 have p1 : ∀ y, (EE p l y).length <= l.length + 1 := fun y => PC l y
 by_cases k2 : Ah p x.elem = 2
 .rw [if_pos k2] at hs
  by_cases f0 : x.fin = 0
  .rw [if_pos f0] at hs
   subst hs
   refine ⟨hz, hi.gok, hi.hold, fun y hy => ?_, by dsimp only; omega, by dsimp only; omega, ?_⟩
   .dsimp only at hy
    split at hy
    .rcases ME hy with hy | hy
     .rcases ME hy with hy | hy
      .exact hl y hy
      exact hy
     exact hy
    exact hl y hy
   dsimp only
   have q1 := p1 ⟨x.elem, 2⟩
   have q2 := PC (p := p) (EE p l ⟨x.elem, 2⟩) ⟨x.elem, 1⟩
   split <;> omega
  rw [if_neg f0] at hs
  by_cases a : (⟨x.elem, x.fin⟩ : AJ) ∈ nd \/ (⟨x.elem, x.fin⟩ : AJ) ∈ g
  .rw [if_pos a] at hs
   subst hs
   refine ⟨hz, hi.gok, hi.hold, fun y hy => ?_, by dsimp only; omega, by dsimp only; omega, ?_⟩
   .dsimp only at hy
    split at hy
    .rcases ME hy with hy | hy
     .exact hl y hy
     exact hy
    exact hl y hy
   dsimp only
   have q1 := p1 ⟨x.elem, 0⟩
   split <;> omega
  rw [if_neg a] at hs
  subst hs
  obtain ⟨f1, f2, f3⟩ := Do hhas
  rw [k2] at f3
  simp [CH] at f3
  have hw : AR (3 - x.fin) = 3 - x.fin := by rw [Ci] <;> omega
  refine ⟨hi.zok, ?_, hi.hold, hl, ?_, by dsimp only; omega, by dsimp only; omega⟩
  .dsimp only
   split
   .exact hi.gok
   rename_i hng
   refine ⟨fun m hm => ?_, ?_⟩
   .rcases List.mem_append.1 hm with hm | hm
    .exact hi.gok.ok m hm
    simp at hm; subst hm; exact ⟨c1, k2, by rw [hw]; simp only; omega⟩
   rw [List.pairwise_append]
   refine ⟨hi.gok.nd, by simp, fun m hm q hq => ?_⟩
   simp at hq
   subst hq
   intro he
   simp only at he
   obtain ⟨_, _, hp⟩ := hi.gok.ok m hm
   have e1 : m = ⟨x.elem, m.pos⟩ := by cases m; simp only at he; subst he; rfl
   by_cases e : m.pos = x.fin
   .rw [e] at e1; rw [e1] at hm; exact a (.inr hm)
   have : m.pos = 3 - x.fin := by omega
   rw [this, <- hw] at e1; rw [e1] at hm; exact hng hm
  dsimp only
  split
  .omega
  simp; omega
 rw [if_neg k2] at hs
 cases ht : BX p x.elem x.fin 0 with
 | none =>
  rw [ht] at hs
  subst hs
  exact ⟨hi.zok, hi.gok, hi.hold, hl, by dsimp only; omega, by dsimp only; omega, by dsimp only; omega⟩
 | some o =>
  rw [ht] at hs
  subst hs
  refine ⟨hz, hi.gok, hi.hold, fun y hy => ?_, by dsimp only; omega, by dsimp only; omega, ?_⟩
  .dsimp only at hy
   split at hy
   .rcases ME hy with hy | hy
    .exact hl y hy
    exact hy
   exact hl y hy
  dsimp only
  have q1 := p1 ⟨x.elem, o⟩
  split <;> omega
theorem VZ (hv : CD p) (hn : B0 p n) (h1 : r.steps.length <= 12) (h2 : r.needs.length <= 1000) : ∃ g z h b, C8 n r = some ⟨r.frm, r.to, r.fin, r.steps, r.needs, g, z, h, b⟩ /\ S4 p r.steps z /\ V4 p r.steps g /\ (p.hard = true -> h = []) /\ g.length <= 700 /\ h.length <= 700 := by
 have hj := hv.nj
 have hp := FV (p := p) r.steps
 rw [Mg hv hn h1 h2]
 obtain ⟨R, e1, g, z, h, b, rfl, e2⟩ := ED (step := Bx n r r.steps r.needs p) (Post := fun R => ∃ g z h b, R = (⟨r.frm, r.to, r.fin, r.steps, r.needs, g, z, h, b⟩ : AO) /\ S4 p r.steps z /\ V4 p r.steps g /\ (p.hard = true -> h = []) /\ g.length <= 700 /\ h.length <= 700)
  (fun k s => FI p r.steps 700 k s.2.1 s.2.2.1 s.2.2.2.1 s.2.2.2.2.1 s.2.2.2.2.2) 700 (s := (false, [], [], [], [], (CO p (CN p r.steps)).reverse)) (by
   rintro k ⟨b, vis, g, z, h, l⟩ hi
   have hm := hi.meas
   have hlg := hi.lg
   have hlh := hi.lh
   have hzl := hi.zok.len
   dsimp only at hm hlg hlh hzl hi
   rcases List.eq_nil_or_concat l with rfl | ⟨l', x, rfl⟩
   .left
    exact ⟨_, rfl, g, z, h, b, rfl, hi.zok, hi.gok, hi.hold, by omega, by omega⟩
   .right
    rw [List.concat_eq_append] at hi hm ⊢
    simp only [List.length_append, List.length_cons, List.length_nil] at hm
    refine ⟨by omega, _, Nx hn h1 h2 b vis g z h l' x (by omega) (by omega) (by omega) (by omega), SE hv hi rfl⟩) (by
   refine ⟨⟨by simp, by simp, by simp, by simp⟩, ⟨by simp, by simp⟩, fun _ => rfl, fun y hy => ?_, by simp, by simp, ?_⟩
   .have := List.mem_reverse.1 hy
    obtain ⟨x, hx, rfl⟩ := List.mem_map.1 this
    obtain ⟨y, hy⟩ := H6 hx
    rw [hy]
    exact FX hy
   have h3 : GR p [] <= (Bj p).length := List.length_filter_le _ _
   have h4 : (Bj p).length = 2 * p.joins.length := Ea _
   simp only [CO, List.length_reverse, List.length_map]
   omega)
 exact ⟨g, z, h, b, e1, e2⟩
end
end Go.E
/- Plain Lean: zone, guards and holds of a road's flank (law FlankApart). No condition. -/
namespace Go.E
open Go
section
variable {p : AN} {n : BL} {r : AO}
end
end Go.E
/- Plain Lean: one call of the document's search for the flank, in a clean form. No condition. -/
namespace Go.E
open Go
theorem Jg (l : List AJ) (hl : l.length < 1000000) (x : AJ) : C9 l x = some (decide (x ∈ l)) := by
 unfold C9
 obtain ⟨b, h1, h2⟩ := B6 (l := l) (step := Di l x) (Post := fun b => b = decide (x ∈ l)) (fun _ y => y ≠ x) (fun good => ⟨false, by simp [Di], by
   symm; rw [decide_eq_false_iff_not]; intro hm
   obtain ⟨i, hi⟩ := List.getElem?_of_mem hm
   exact good i x hi rfl⟩) (fun i a ha _ => by
   have := BW ha
   by_cases e : a = x
   .exact .inl ⟨true, by simp only [Di, BF ha, cond_true, Ai, ha, Option.bind_some, e, beq_self_eq_true], by symm; rw [decide_eq_true_iff]; subst e; exact List.mem_of_getElem? ha⟩
   have : (a == x) = false := beq_eq_false_iff_ne.2 e
   exact .inr ⟨by simp only [Di, BF ha, cond_true, Ai, ha, Option.bind_some, this, cond_false, Ab (show i < 1000000000 by omega)], e⟩)
 rw [h1, h2]
section
variable {p : AN} {n : BL} {r : AO}
def Fg (p : AN) (r : AO) (g : List AJ) (z h : List Int) (b : Bool) (met : List AF) : Ap := ⟨p, ⟨r.frm, r.to, r.fin, r.steps, r.needs, g, z, h, b⟩, met⟩
def RZ (p : AN) (rc : Ap × AF -> Option Ap) (S : Ap) (y : AF) : Option Ap := match Aw p y with
 | some q => rc (S, q)
 | none => some S
theorem Xv (b : Bool) (z : List Int) (e : Int) (hz : z.length <= 1000) : ((C4 z e).bind fun y => bif y then some (true, b, z) else bif decide (12 <= (z.length : Int)) then some (false, true, z) else (A8 z [e]).bind fun y' => some (true, b, y') : Option (Bool × Bool × List Int)) = some (BJ b z e) := by
 rw [K8 z (by omega)]
 unfold BJ
 simp only [Option.bind_some]
 by_cases c : e ∈ z
 .rw [decide_eq_true c, if_pos c]; rfl
 rw [decide_eq_false c, if_neg c]
 by_cases d : 12 <= z.length
 .rw [if_pos d, decide_eq_true (show (12 : Int) <= (z.length : Int) by omega)]; rfl
 rw [if_neg d, decide_eq_false (show ¬ (12 : Int) <= (z.length : Int) by omega)]
 simp only [cond_false, A2 (show z.length + [e].length <= 4294967296 by simp; omega), Option.bind_some]
def Th (p : AN) (r : AO) (rc : Ap × AF -> Option Ap) (g : List AJ) (z h : List Int) (b : Bool) (met : List AF) (x : AF) : Option Ap :=
 if x.elem ∈ r.steps.map (·.elem) \/ x ∈ met then some (Fg p r g z h b met)
 else if 0 <= Ay p x /\ p.hard = false then some (Fg p r g z (if Ay p x ∈ h then h else h ++ [Ay p x]) b (met ++ [x]))
 else if Ah p x.elem = 4 then some (Fg p r g z h true (met ++ [x]))
 else if Ah p x.elem = 2 then
  if x.fin = 0 then
   if (BJ b z x.elem).1 then (RZ p rc (Fg p r g (BJ b z x.elem).2.2 h (BJ b z x.elem).2.1 (met ++ [x])) ⟨x.elem, 1⟩).bind fun S => RZ p rc S ⟨x.elem, 2⟩
   else some (Fg p r g (BJ b z x.elem).2.2 h (BJ b z x.elem).2.1 (met ++ [x]))
  else if ⟨x.elem, x.fin⟩ ∈ r.needs \/ ⟨x.elem, x.fin⟩ ∈ g then
   if (BJ b z x.elem).1 then RZ p rc (Fg p r g (BJ b z x.elem).2.2 h (BJ b z x.elem).2.1 (met ++ [x])) ⟨x.elem, 0⟩
   else some (Fg p r g (BJ b z x.elem).2.2 h (BJ b z x.elem).2.1 (met ++ [x]))
  else some (Fg p r (if ⟨x.elem, AR (3 - x.fin)⟩ ∈ g then g else g ++ [⟨x.elem, AR (3 - x.fin)⟩]) z h b (met ++ [x]))
 else if (BJ b z x.elem).1 then RZ p rc (Fg p r g (BJ b z x.elem).2.2 h (BJ b z x.elem).2.1 (met ++ [x])) ⟨x.elem, (BX p x.elem x.fin 0).getD 0⟩
 else some (Fg p r g (BJ b z x.elem).2.2 h (BJ b z x.elem).2.1 (met ++ [x]))
theorem Xw (hv : CD p) (h1 : r.steps.length <= 12) (h2 : r.needs.length <= 1000) (rc : Ap × AF -> Option Ap) (g : List AJ) (z h : List Int) (b : Bool) (met : List AF) (x : AF) (hrc : ¬ (x.elem ∈ r.steps.map (·.elem) \/ x ∈ met) -> ∀ q S', Aw p ⟨x.elem, 1⟩ = some q -> rc (Fg p r g (BJ b z x.elem).2.2 h (BJ b z x.elem).2.1 (met ++ [x]), q) = some S' -> S'.p = p) (hg : g.length <= 1000) (hz : z.length <= 1000) (hh : h.length <= 1000) (hm : met.length <= 1000) :
  CV rc (Fg p r g z h b met) x = Th p r rc g z h b met x := by
 have hj := hv.nj
 have hns := hv.ns
 have own := SD (⟨r.frm, r.to, r.fin, r.steps, r.needs, g, z, h, b⟩ : AO) (show r.steps.length < 1000000 by omega) x.elem
 have tz := Xv b z x.elem hz
 have hmet := A2 (l := met) (m := [x]) (by simp; omega)
 unfold CV Th Fg
 simp only [own, RX met (show met.length < 1000000 by omega), Option.bind_some]
 have e1 : (bif decide (x.elem ∈ r.steps.map (·.elem)) then some true else some (decide (x ∈ met)) : Option Bool) = some (decide (x.elem ∈ r.steps.map (·.elem) \/ x ∈ met)) := by
  by_cases a : x.elem ∈ r.steps.map (·.elem)
  .rw [decide_eq_true a]; simp [a]
  rw [decide_eq_false a]; simp [a]
 simp only [e1, Option.bind_some]
 by_cases c : x.elem ∈ r.steps.map (·.elem) \/ x ∈ met
 .rw [if_pos c, decide_eq_true c]; rfl
 rw [if_neg c, decide_eq_false c]
 simp only [cond_false, hmet, Option.bind_some, DY p (show p.signals.length < 1000000 by omega)]
 by_cases k1 : 0 <= Ay p x /\ p.hard = false
 .rw [if_pos k1, decide_eq_true k1.1, k1.2]
  simp only [cond_true, Bool.not_false, Option.bind_some, K8 h (show h.length < 1000000 by omega)]
  by_cases m : Ay p x ∈ h
  .rw [decide_eq_true m, if_pos m]; rfl
  rw [decide_eq_false m, if_neg m]
  simp only [Bool.not_false, cond_true, A2 (show h.length + [Ay p x].length <= 4294967296 by simp; omega), Option.bind_some]
 rw [if_neg k1]
 have eb : (bif decide (0 <= Ay p x) then some (!p.hard) else some false : Option Bool) = some false := by
  by_cases a : 0 <= Ay p x
  .rw [decide_eq_true a]
   cases hp : p.hard with
   | true => rfl
   | false => exact absurd ⟨a, hp⟩ k1
  rw [decide_eq_false a]; rfl
 simp only [eb, Option.bind_some, cond_false, Ev]
 by_cases k4 : Ah p x.elem = 4
 .rw [if_pos k4, k4]; rfl
 rw [if_neg k4]
 have b4 : (Ah p x.elem == 4) = false := beq_eq_false_iff_ne.2 k4
 simp only [b4, cond_false, tz, Option.bind_some, Bh p (show p.joins.length < 1000000 by omega), RY]
 by_cases k2 : Ah p x.elem = 2
 .rw [if_pos k2, k2]
  simp only [beq_self_eq_true, cond_true]
  by_cases f0 : x.fin = 0
  .rw [if_pos f0]
   have bf : (x.fin == 0) = true := by simp [f0]
   simp only [bf, cond_true, tz, Option.bind_some]
   cases ht : (BJ b z x.elem).1 with
   | false => simp only [cond_false, Option.bind_some, Bool.false_eq_true, if_false]
   | true =>
    simp only [cond_true, if_true]
    unfold RZ
    cases hy : Aw p ⟨x.elem, 1⟩ with
    | none =>
     simp only [Option.isSome_none, cond_false, Option.bind_some, Bh p (show p.joins.length < 1000000 by omega)]
     cases hy2 : Aw p ⟨x.elem, 2⟩ with
     | none => rfl
     | some q2 =>
      simp only [Option.isSome_some, cond_true, Option.getD_some]
      cases hr2 : rc (⟨p, ⟨r.frm, r.to, r.fin, r.steps, r.needs, g, (BJ b z x.elem).2.2, h, (BJ b z x.elem).2.1⟩, met ++ [x]⟩, q2) with
      | none => simp only [hr2, Option.bind_none]
      | some S => simp only [hr2, Option.bind_some]
    | some q =>
     simp only [Option.isSome_some, cond_true, Option.getD_some]
     cases hr : rc (⟨p, ⟨r.frm, r.to, r.fin, r.steps, r.needs, g, (BJ b z x.elem).2.2, h, (BJ b z x.elem).2.1⟩, met ++ [x]⟩, q) with
     | none => rfl
     | some S =>
      obtain ⟨Sp, Sr, Sm⟩ := S
      have hp := hrc c _ _ hy hr
      simp only at hp
      subst hp
      simp only [Option.bind_some, Bh Sp (show Sp.joins.length < 1000000 by omega)]
      cases hy2 : Aw Sp ⟨x.elem, 2⟩ with
      | none => rfl
      | some q2 =>
       simp only [Option.isSome_some, cond_true, Option.getD_some, Option.bind_some]
       cases hr2 : rc (⟨Sp, Sr, Sm⟩, q2) with
       | none => simp only [hr2, Option.bind_none]
       | some S => simp only [hr2, Option.bind_some]
  rw [if_neg f0]
  have bf : (x.fin == 0) = false := beq_eq_false_iff_ne.2 f0
  simp only [bf, cond_false, Jg r.needs (show r.needs.length < 1000000 by omega), Jg g (show g.length < 1000000 by omega), Option.bind_some]
  have en : (bif !decide ((⟨x.elem, x.fin⟩ : AJ) ∈ r.needs) then some (!decide ((⟨x.elem, x.fin⟩ : AJ) ∈ g)) else some false : Option Bool) = some (decide (¬ ((⟨x.elem, x.fin⟩ : AJ) ∈ r.needs \/ (⟨x.elem, x.fin⟩ : AJ) ∈ g))) := by
   by_cases a : (⟨x.elem, x.fin⟩ : AJ) ∈ r.needs
   .simp [a]
   by_cases a2 : (⟨x.elem, x.fin⟩ : AJ) ∈ g <;> simp [a, a2]
  simp only [en, Option.bind_some]
  by_cases a : (⟨x.elem, x.fin⟩ : AJ) ∈ r.needs \/ (⟨x.elem, x.fin⟩ : AJ) ∈ g
  .rw [if_pos a, decide_eq_false (show ¬ ¬ _ from fun hn => hn a)]
   simp only [cond_false, tz, Option.bind_some]
   cases ht : (BJ b z x.elem).1 with
   | false => simp only [cond_false, Option.bind_some, Bool.false_eq_true, if_false]
   | true =>
    simp only [cond_true, if_true]
    unfold RZ
    cases hy : Aw p ⟨x.elem, 0⟩ with
    | none => rfl
    | some q =>
     simp only [Option.isSome_some, cond_true, Option.getD_some]
     cases hr : rc (⟨p, ⟨r.frm, r.to, r.fin, r.steps, r.needs, g, (BJ b z x.elem).2.2, h, (BJ b z x.elem).2.1⟩, met ++ [x]⟩, q) with
     | none => rfl
     | some S => rfl
  rw [if_neg a, decide_eq_true a]
  simp only [cond_true]
  by_cases m : (⟨x.elem, AR (3 - x.fin)⟩ : AJ) ∈ g
  .rw [decide_eq_true m, if_pos m]; rfl
  rw [decide_eq_false m, if_neg m]
  simp only [Bool.not_false, cond_true, A2 (show g.length + [(⟨x.elem, AR (3 - x.fin)⟩ : AJ)].length <= 4294967296 by simp; omega), Option.bind_some]
 rw [if_neg k2]
 have b2 : (Ah p x.elem == 2) = false := beq_eq_false_iff_ne.2 k2
 simp only [b2, cond_false]
 cases ht : (BJ b z x.elem).1 with
 | false => simp only [cond_false, Bool.false_eq_true, if_false]
 | true =>
  simp only [cond_true, if_true]
  unfold RZ
  cases hy : Aw p ⟨x.elem, (BX p x.elem x.fin 0).getD 0⟩ with
  | none => rfl
  | some q =>
   simp only [Option.isSome_some, cond_true, Option.getD_some]
   cases hr : rc (⟨p, ⟨r.frm, r.to, r.fin, r.steps, r.needs, g, (BJ b z x.elem).2.2, h, (BJ b z x.elem).2.1⟩, met ++ [x]⟩, q) with
   | none => rfl
   | some S => rfl
end
end Go.E
/- Plain Lean: the document's search for the flank and the program's loop: one call is as good as one port on the stack. No condition. -/
namespace Go.E
open Go
section
variable {p : AN} {n : BL} {r : AO}
noncomputable def Ny (m : Nat) : Ap × AF -> Option Ap := Oz (fun (rc : (Ap × AF) -> Option Ap) (a : (Ap × AF)) => CV rc a.1 a.2) m
structure CI (p : AN) (vis : List (AF × Bool)) (g : List AJ) (z h : List Int) (met : List AF) : Prop where
 mt : ∀ y, y ∈ met ↔ BQ vis y = true
 lz : z.length <= 12
 lg : g.length + GR p vis <= 500
 lh : h.length + GR p vis <= 500
 lm : met.length + GR p vis <= 500
theorem S5 {b : Bool} {z : List Int} {e : Int} (h : z.length <= 12) : (BJ b z e).2.2.length <= 12 := by
 unfold BJ
 split
 .exact h
 split
 .exact h
 simp; omega
theorem CI.mark {vis : List (AF × Bool)} {g g' : List AJ} {z z' h h' : List Int} {met : List AF} {x : AF} (hi : CI p vis g z h met) (hx : x ∈ Bj p) (hv : BQ vis x = false) (hz : z'.length <= 12) (hg : g'.length <= g.length + 1) (hh : h'.length <= h.length + 1) : CI p (BE x true vis) g' z' h' (met ++ [x]) := by
 have hlt := RW hx hv
 have h1 := hi.lg; have h2 := hi.lh; have h3 := hi.lm
 refine ⟨fun y => ?_, hz, by omega, by omega, by simp; omega⟩
 rw [List.mem_append, hi.mt, FW]
 simp only [List.mem_singleton]
 exact Or.comm
def Ys (p : AN) (n : BL) (r : AO) (m : Nat) (b : Bool) (vis : List (AF × Bool)) (g : List AJ) (z h : List Int) (met : List AF) (x : AF) : Prop :=
 ∃ b' vis' g' z' h' met', Ny m (Fg p r g z h b met, x) = some (Fg p r g' z' h' b' met') /\ CI p vis' g' z' h' met' /\ GR p vis' <= GR p vis /\
  ∀ l k, FI p r.steps 700 k vis g z h (l ++ [x]) -> ∃ k', AQ (Bx n r r.steps r.needs p) (b, vis, g, z, h, l ++ [x]) = AQ (Bx n r r.steps r.needs p) (b', vis', g', z', h', l) /\ FI p r.steps 700 k' vis' g' z' h' l
theorem MF {m : Nat} (ih : ∀ b vis g z h met x, GR p vis < m -> x ∈ Bj p -> CI p vis g z h met -> Ys p n r m b vis g z h met x) {b : Bool} {vis : List (AF × Bool)} {g : List AJ} {z h : List Int} {met : List AF} (y : AF) (hu : GR p vis < m) (hi : CI p vis g z h met) :
  ∃ b' vis' g' z' h' met', RZ p (Ny m) (Fg p r g z h b met) y = some (Fg p r g' z' h' b' met') /\ CI p vis' g' z' h' met' /\ GR p vis' <= GR p vis /\
   ∀ l k, FI p r.steps 700 k vis g z h (EE p l y) -> ∃ k', AQ (Bx n r r.steps r.needs p) (b, vis, g, z, h, EE p l y) = AQ (Bx n r r.steps r.needs p) (b', vis', g', z', h', l) /\ FI p r.steps 700 k' vis' g' z' h' l := by
 unfold RZ EE
 cases hy : Aw p y with
 | none => exact ⟨b, vis, g, z, h, met, rfl, hi, Nat.le_refl _, fun l k hf => ⟨k, rfl, hf⟩⟩
 | some q => exact ih b vis g z h met q hu (FX hy) hi
theorem PD {x : AF} (h : Cg p x = true) (k2 : Ah p x.elem ≠ 2) (k4 : Ah p x.elem ≠ 4) : ∃ o, BX p x.elem x.fin 0 = some o := by
 obtain ⟨f1, f2, f3⟩ := Do h
 have h' : Cg p ⟨x.elem, x.fin⟩ = true := h
 unfold BX BU
 rw [h']
 simp only [if_true]
 by_cases k1 : Ah p x.elem = 1
 .rw [if_pos k1]; exact ⟨_, by simp [Ck]; rfl⟩
 by_cases k3 : Ah p x.elem = 3
 .rw [if_neg k1, if_pos k3]; exact ⟨_, by simp [Ck]; rfl⟩
 have : CH (Ah p x.elem) = 0 := by unfold CH; rw [if_neg k1, if_neg k2, if_neg k3, if_neg k4]
 omega
theorem Zf (hv : CD p) (hn : B0 p n) (h1 : r.steps.length <= 12) (h2 : r.needs.length <= 1000) : ∀ (m : Nat) (b : Bool) (vis : List (AF × Bool)) (g : List AJ) (z h : List Int) (met : List AF) (x : AF), GR p vis < m -> x ∈ Bj p -> CI p vis g z h met -> Ys p n r m b vis g z h met x := by
 intro m
 induction m with
 | zero => intro b vis g z h met x hu; omega
 | succ m ih =>
  intro b vis g z h met x hu hx hi
  have lz := hi.lz; have lg := hi.lg; have lh := hi.lh; have lm := hi.lm
  have hhas : Cg p x = true := by
   obtain ⟨i, hi⟩ := List.mem_iff_getElem?.1 hx
   exact hv.join.has i x hi
  have hdec : ¬ (x.elem ∈ r.steps.map (·.elem) \/ x ∈ met) -> BQ vis x = false /\ GR p (BE x true vis) < m := fun c => by
   have : BQ vis x = false := by
    cases hs : BQ vis x with
    | false => rfl
    | true => exact absurd (.inr ((hi.mt x).2 hs)) c
   have := RW hx this
   exact ⟨by assumption, by omega⟩
  have hcs : Ny (m + 1) (Fg p r g z h b met, x) = Th p r (Ny m) g z h b met x := by
   show CV (Ny m) (Fg p r g z h b met) x = _
   refine Xw hv h1 h2 (Ny m) g z h b met x (fun c q S' hq hS => ?_) (by omega) (by omega) (by omega) (by omega)
   obtain ⟨hs, hu'⟩ := hdec c
   obtain ⟨b', vis', g', z', h', met', e, _⟩ := ih (BJ b z x.elem).2.1 (BE x true vis) g (BJ b z x.elem).2.2 h (met ++ [x]) q hu' (FX hq) (hi.mark hx hs (S5 lz) (by omega) (by omega))
   rw [e] at hS; cases hS; rfl
  unfold Ys
  rw [hcs]
  have round : ∀ l k, FI p r.steps 700 k vis g z h (l ++ [x]) -> ∀ s, s = LB p r.steps r.needs b vis g z h l x -> AQ (Bx n r r.steps r.needs p) (b, vis, g, z, h, l ++ [x]) = AQ (Bx n r r.steps r.needs p) s /\ FI p r.steps 700 (k + 1) s.2.1 s.2.2.1 s.2.2.2.1 s.2.2.2.2.1 s.2.2.2.2.2 := fun l k hf s hs => by
   have hm := hf.meas
   simp only [List.length_append, List.length_cons, List.length_nil] at hm
   refine ⟨CA ?_, SE hv hf hs⟩
   rw [hs]
   exact Nx hn h1 h2 b vis g z h l x (by omega) (by omega) (by omega) (by omega)
  unfold Th
  by_cases c : x.elem ∈ r.steps.map (·.elem) \/ x ∈ met
  .rw [if_pos c]
   refine ⟨b, vis, g, z, h, met, rfl, hi, Nat.le_refl _, fun l k hf => ⟨k + 1, ?_⟩⟩
   have := round l k hf _ rfl
   unfold LB at this
   rw [if_pos (by rw [<- hi.mt]; exact c)] at this
   exact this
  rw [if_neg c]
  obtain ⟨hs, hu'⟩ := hdec c
  have hul := Xt (p := p) (vis := vis) x
  have c' : ¬ (x.elem ∈ r.steps.map (·.elem) \/ BQ vis x = true) := by rw [<- hi.mt]; exact c
  unfold LB at round
  simp only [if_neg c'] at round
  by_cases k1 : 0 <= Ay p x /\ p.hard = false
  .rw [if_pos k1]
   simp only [if_pos k1] at round
   refine ⟨b, BE x true vis, g, z, _, met ++ [x], rfl, hi.mark hx hs lz (by omega) (by split <;> simp), hul, fun l k hf => ⟨k + 1, round l k hf _ rfl⟩⟩
  rw [if_neg k1]
  simp only [if_neg k1] at round
  by_cases k4 : Ah p x.elem = 4
  .rw [if_pos k4]
   simp only [if_pos k4] at round
   exact ⟨true, BE x true vis, g, z, h, met ++ [x], rfl, hi.mark hx hs lz (by omega) (by omega), hul, fun l k hf => ⟨k + 1, round l k hf _ rfl⟩⟩
  rw [if_neg k4]
  simp only [if_neg k4] at round
  have hc2 := hi.mark (g' := g) (z' := (BJ b z x.elem).2.2) (h' := h) hx hs (S5 lz) (by omega) (by omega)
  have stay : ¬ (BJ b z x.elem).1 = true -> ∀ (P : Prop), True := fun _ _ => trivial
  by_cases k2 : Ah p x.elem = 2
  .rw [if_pos k2]
   simp only [if_pos k2] at round
   by_cases f0 : x.fin = 0
   .rw [if_pos f0]
    simp only [if_pos f0] at round
    by_cases t1 : (BJ b z x.elem).1 = true
    .rw [if_pos t1]
     simp only [if_pos t1] at round
     obtain ⟨b1, v1, g1, z1, q1, m1, e1, i1, u1, s1⟩ := MF ih (b := (BJ b z x.elem).2.1) ⟨x.elem, 1⟩ hu' hc2
     obtain ⟨b2, v2, g2, z2, q2, m2, e2, i2, u2, s2⟩ := MF ih (b := b1) (vis := v1) ⟨x.elem, 2⟩ (by omega) i1
     refine ⟨b2, v2, g2, z2, q2, m2, by rw [e1]; exact e2, i2, by omega, fun l k hf => ?_⟩
     obtain ⟨r1, r2⟩ := round l k hf _ rfl
     obtain ⟨k3, r3, r4⟩ := s1 _ _ r2
     obtain ⟨k5, r5, r6⟩ := s2 _ _ r4
     exact ⟨k5, r1.trans (r3.trans r5), r6⟩
    rw [if_neg t1]
    simp only [if_neg t1] at round
    exact ⟨_, BE x true vis, g, _, h, met ++ [x], rfl, hc2, hul, fun l k hf => ⟨k + 1, round l k hf _ rfl⟩⟩
   rw [if_neg f0]
   simp only [if_neg f0] at round
   by_cases a : (⟨x.elem, x.fin⟩ : AJ) ∈ r.needs \/ (⟨x.elem, x.fin⟩ : AJ) ∈ g
   .rw [if_pos a]
    simp only [if_pos a] at round
    by_cases t1 : (BJ b z x.elem).1 = true
    .rw [if_pos t1]
     simp only [if_pos t1] at round
     obtain ⟨b1, v1, g1, z1, q1, m1, e1, i1, u1, s1⟩ := MF ih (b := (BJ b z x.elem).2.1) ⟨x.elem, 0⟩ hu' hc2
     refine ⟨b1, v1, g1, z1, q1, m1, e1, i1, by omega, fun l k hf => ?_⟩
     obtain ⟨r1, r2⟩ := round l k hf _ rfl
     obtain ⟨k3, r3, r4⟩ := s1 _ _ r2
     exact ⟨k3, r1.trans r3, r4⟩
    rw [if_neg t1]
    simp only [if_neg t1] at round
    exact ⟨_, BE x true vis, g, _, h, met ++ [x], rfl, hc2, hul, fun l k hf => ⟨k + 1, round l k hf _ rfl⟩⟩
   rw [if_neg a]
   simp only [if_neg a] at round
   exact ⟨b, BE x true vis, _, z, h, met ++ [x], rfl, hi.mark hx hs lz (by split <;> simp) (by omega), hul, fun l k hf => ⟨k + 1, round l k hf _ rfl⟩⟩
  rw [if_neg k2]
  simp only [if_neg k2] at round
  obtain ⟨o, ho⟩ : ∃ o, BX p x.elem x.fin 0 = some o := PD hhas k2 k4
  simp only [ho] at round
  rw [ho, Option.getD_some]
  by_cases t1 : (BJ b z x.elem).1 = true
  .rw [if_pos t1]
   simp only [if_pos t1] at round
   obtain ⟨b1, v1, g1, z1, q1, m1, e1, i1, u1, s1⟩ := MF ih (b := (BJ b z x.elem).2.1) ⟨x.elem, o⟩ hu' hc2
   refine ⟨b1, v1, g1, z1, q1, m1, e1, i1, by omega, fun l k hf => ?_⟩
   obtain ⟨r1, r2⟩ := round l k hf _ rfl
   obtain ⟨k3, r3, r4⟩ := s1 _ _ r2
   exact ⟨k3, r1.trans r3, r4⟩
  rw [if_neg t1]
  simp only [if_neg t1] at round
  exact ⟨_, BE x true vis, g, _, h, met ++ [x], rfl, hc2, hul, fun l k hf => ⟨k + 1, round l k hf _ rfl⟩⟩
end
end Go.E
/- Plain Lean: the flank of a road: the document's answer and the program's are one (law FlankOfs). No condition. -/
namespace Go.E
open Go
section
variable {p : AN} {n : BL} {r : AO}
theorem Zg (hv : CD p) (g : List AJ) (z h : List Int) (b : Bool) (met : List AF) {x y : AF} (hy : Aw p x = some y) {g' : List AJ} {z' h' : List Int} {b' : Bool} {met' : List AF} (hc : Ny 1000 (Fg p r g z h b met, y) = some (Fg p r g' z' h' b' met')) :
  JU (Fg p r g z h b met) x.elem x.fin = some (Fg p r g' z' h' b' met') := by
 have hj := hv.nj
 show C0 (Oz (fun (rc : (Ap × Int × Int) -> Option Ap) (a : (Ap × Int × Int)) => C0 rc a.1 a.2.1 a.2.2) 999) (Fg p r g z h b met) x.elem x.fin = _
 have hc' : IM (Fg p r g z h b met) y = some (Fg p r g' z' h' b' met') := hc
 unfold C0 Fg at *
 simp only [Bh p (show p.joins.length < 1000000 by omega), hy, Option.bind_some, Option.isSome_some, cond_true, Option.getD_some, hc']
def flT (p : AN) (r : AO) (i : Int) (g : List AJ) (z h : List Int) (b : Bool) (met : List AF) : Int × (List Bp) × (List Br) × (List BB) × (List B5) × Int × Int × Int × Int × Bool × Int × Int × Int × (List AT) × (List AJ) × Bool × (List AJ) × (List Int) × (List Int) × (List AF) :=
 (i, p.elems, p.joins, p.signals, p.lines, p.top, p.brake, p.margin, p.throw, p.hard, r.frm, r.to, r.fin, r.steps, r.needs, b, g, z, h, met)
theorem W4 (hv : CD p) (hn : B0 p n) (h1 : r.steps.length <= 12) (h2 : r.needs.length <= 1000) (L : List AF) (hL : L.length <= 24) (hLj : ∀ x ∈ L, ∃ y, Aw p x = some y) : ∀ (rest : List AF) (i : Nat) (b : Bool) (vis : List (AF × Bool)) (g : List AJ) (z h : List Int) (met : List AF) (k : Nat), L.drop i = rest -> i <= L.length -> CI p vis g z h met -> FI p r.steps 700 k vis g z h (CO p rest).reverse ->
  ∃ R, AQ (F2 L) (flT p r (i : Int) g z h b met) = some R /\ AQ (Bx n r r.steps r.needs p) (b, vis, g, z, h, (CO p rest).reverse) = some R := by
 have hj := hv.nj
 intro rest
 induction rest with
 | nil =>
  intro i b vis g z h met k hd hi hc hf
  have : i = L.length := by have := congrArg List.length hd; simp at this; omega
  subst this
  refine ⟨⟨r.frm, r.to, r.fin, r.steps, r.needs, g, z, h, b⟩, Bc ?_, Bc rfl⟩
  simp [F2, flT]
 | cons x rest ih =>
  intro i b vis g z h met k hd hi hc hf
  have hlt : i < L.length := by have := congrArg List.length hd; simp at this; omega
  have hx : L[i]? = some x := by
   have : (L.drop i)[0]? = some x := by rw [hd]; rfl
   simpa using this
  have hr : L.drop (i + 1) = rest := by
   have : (L.drop i).drop 1 = rest := by rw [hd]; rfl
   rwa [List.drop_drop] at this
  obtain ⟨y, hy⟩ := hLj x (List.mem_of_getElem? hx)
  have hq : (CO p (x :: rest)).reverse = (CO p rest).reverse ++ [y] := by unfold CO; simp [hy]
  have hu : GR p vis < 1000 := by
   have h3 : GR p vis <= (Bj p).length := List.length_filter_le _ _
   have h4 : (Bj p).length = 2 * p.joins.length := Ea _
   omega
  obtain ⟨b', vis', g', z', h', met', e1, i1, u1, s1⟩ := Zf hv hn h1 h2 1000 b vis g z h met y hu (FX hy) hc
  rw [hq] at hf ⊢
  obtain ⟨k', e2, f2⟩ := s1 _ _ hf
  obtain ⟨R, e3, e4⟩ := ih (i + 1) b' vis' g' z' h' met' k' hr (by omega) i1 f2
  refine ⟨R, ?_, by rw [e2, e4]⟩
  rw [<- e3]
  refine CA ?_
  have hon := Zg (r := r) hv g z h b met hy e1
  unfold Fg at hon
  simp only [F2, flT, BF hx, cond_true, Ai, hx, Option.bind_some]
  rw [hon]
  simp only [Option.bind_some, Ab (show i < 1000000000 by omega)]
  simp only [Int.ofNat_lt, hlt, decide_true, cond_true]
theorem Us (hv : CD p) (hn : B0 p n) (h1 : r.steps.length <= 12) (h2 : r.needs.length <= 1000) : ∃ R, Fc p r = some R /\ C8 n r = some R := by
 have hj := hv.nj
 have hp := FV (p := p) r.steps
 rw [Mg hv hn h1 h2]
 unfold Fc
 simp only [A2 (show ([] : List AT).length + r.steps.length <= 4294967296 by simp; omega), A2 (show ([] : List AJ).length + r.needs.length <= 4294967296 by simp; omega), List.nil_append, Option.bind_some, S1 hv r (show r.steps.length <= 1000 by omega)]
 have h3 : GR p [] <= (Bj p).length := List.length_filter_le _ _
 have h4 : (Bj p).length = 2 * p.joins.length := Ea _
 refine W4 hv hn h1 h2 (CN p r.steps) (by omega) (fun x hx => H6 hx) (CN p r.steps) 0 false [] [] [] [] [] 0 rfl (Nat.zero_le _) ⟨fun y => by simp [BQ, As], by simp, by simp; omega, by simp; omega, by simp; omega⟩ ⟨⟨by simp, by simp, by simp, by simp⟩, ⟨by simp, by simp⟩, fun _ => rfl, fun y hy => ?_, by simp, by simp, ?_⟩
 .have := List.mem_reverse.1 hy
  obtain ⟨x, hx, rfl⟩ := List.mem_map.1 this
  obtain ⟨y, hy⟩ := H6 hx
  rw [hy]
  exact FX hy
 simp only [CO, List.length_reverse, List.length_map]
 omega
end
end Go.E
/- Plain Lean: whether a road is ready, by the program and by the document (law FlankReady). No condition. -/
namespace Go.E
open Go
theorem Ff {α β : Type} {l : List α} {step : Int -> Option (Int ⊕ β)} (bad : α -> Bool) (x : β) (fin : Option β) (h0 : step (l.length : Int) = fin.map .inr)
  (h1 : ∀ (i : Nat) a, l[i]? = some a -> step (i : Int) = if bad a = true then some (.inr x) else some (.inl ((i + 1 : Nat) : Int))) : AQ step 0 = if l.any bad = true then some x else fin := by
 refine H2 (γ := Unit) l (fun i _ => (i : Int)) (fun _ _ r => if r.any bad = true then some x else fin) (fun _ => ?_) (fun i c a r ha hi => ?_) ()
 .simpa using h0
 rw [h1 i a ha]
 cases hb : bad a with
 | true => left; simp [hb]
 | false => right; exact ⟨(), by simp, by simp [hb]⟩
end Go.E
/- Plain Lean: a road that is ready is so no more when one thing is otherwise (law FlankOne). No condition. -/
namespace Go.E
open Go
section
variable {p : AN} {n : BL} {r : AO}
theorem Yt {n : Int} {k : Nat} (h0 : 0 <= n) (hk : 0 < k) : ∃ j : Nat, j < k /\ HK n (k : Int) = some (j : Int) := by
 obtain ⟨m, rfl⟩ := Int.eq_ofNat_of_zero_le h0
 refine ⟨m % k, Nat.mod_lt _ hk, ?_⟩
 unfold HK
 rw [if_neg (by omega)]
 rfl
end
end Go.E
/- Plain Lean: what a road's flank keeps: nobody comes in but from its zone (law FlankKeeps). No condition. -/
namespace Go.E
open Go
section
variable {p : AN} {n : BL} {r : AO}
def Xx (st : List AT) (vis : List (AF × Bool)) (l : List AF) (y : AF) : Prop := y ∈ l \/ BQ vis y = true \/ y.elem ∈ st.map (·.elem)
structure Ut (p : AN) (nd g : List AJ) (z h : List Int) (at_ : AF -> Prop) (x : AF) : Prop where
 held : 0 <= Ay p x /\ p.hard = false -> Ay p x ∈ h
 gate : ¬ (0 <= Ay p x /\ p.hard = false) -> Ah p x.elem ≠ 4
 toe : ¬ (0 <= Ay p x /\ p.hard = false) -> Ah p x.elem = 2 -> x.fin = 0 -> x.elem ∈ z /\ ∀ o, (o = 1 \/ o = 2) -> ∀ y, Aw p ⟨x.elem, o⟩ = some y -> at_ y
 leg : ¬ (0 <= Ay p x /\ p.hard = false) -> Ah p x.elem = 2 -> x.fin ≠ 0 -> (x.elem ∈ z /\ ∀ y, Aw p ⟨x.elem, 0⟩ = some y -> at_ y) \/ (⟨x.elem, AR (3 - x.fin)⟩ : AJ) ∈ g
 other : ¬ (0 <= Ay p x /\ p.hard = false) -> Ah p x.elem ≠ 2 -> ∀ o, BX p x.elem x.fin 0 = some o -> x.elem ∈ z /\ ∀ y, Aw p ⟨x.elem, o⟩ = some y -> at_ y
theorem Ut.mono {nd g g' : List AJ} {z z' h h' : List Int} {a a' : AF -> Prop} {x : AF} (hk : Ut p nd g z h a x) (hg : ∀ m ∈ g, m ∈ g') (hz : ∀ m ∈ z, m ∈ z') (hh : ∀ m ∈ h, m ∈ h') (ha : ∀ y, a y -> a' y) : Ut p nd g' z' h' a' x :=
 ⟨fun c => hh _ (hk.held c), hk.gate, fun c k f => ⟨hz _ (hk.toe c k f).1, fun o ho y hy => ha _ ((hk.toe c k f).2 o ho y hy)⟩,
  fun c k f => (hk.leg c k f).imp (fun q => ⟨hz _ q.1, fun y hy => ha _ (q.2 y hy)⟩) (hg _), fun c k o ho => ⟨hz _ (hk.other c k o ho).1, fun y hy => ha _ ((hk.other c k o ho).2 y hy)⟩⟩
structure KI (p : AN) (st : List AT) (nd : List AJ) (b : Bool) (vis : List (AF × Bool)) (g : List AJ) (z h : List Int) (l : List AF) : Prop where
 seen : b = false -> ∀ x, BQ vis x = true -> Ut p nd g z h (Xx st vis l) x
 init : ∀ x y, x ∈ CN p st -> Aw p x = some y -> Xx st vis l y
theorem KI.next {st : List AT} {nd : List AJ} {b b' : Bool} {vis vis' : List (AF × Bool)} {g g' : List AJ} {z z' h h' : List Int} {l l' : List AF} {x : AF} (hi : KI p st nd b vis g z h (l ++ [x]))
  (hb : b' = false -> b = false) (hv : ∀ y, BQ vis y = true -> BQ vis' y = true) (hv2 : ∀ y, BQ vis' y = true -> BQ vis y = true \/ y = x) (hl : ∀ y ∈ l, y ∈ l') (hx : BQ vis' x = true \/ x.elem ∈ st.map (·.elem))
  (hg : ∀ m ∈ g, m ∈ g') (hz : ∀ m ∈ z, m ∈ z') (hh : ∀ m ∈ h, m ∈ h') (hr : b' = false -> BQ vis x = false -> BQ vis' x = true -> Ut p nd g' z' h' (Xx st vis' l') x) : KI p st nd b' vis' g' z' h' l' := by
 have ha : ∀ y, Xx st vis (l ++ [x]) y -> Xx st vis' l' y := by
  rintro y (hy | hy | hy)
  .rcases List.mem_append.1 hy with hy | hy
   .exact .inl (hl y hy)
   simp at hy; subst hy; exact .inr hx
  .exact .inr (.inl (hv y hy))
  exact .inr (.inr hy)
 refine ⟨fun hb' y hy => ?_, fun y q hy hq => ha q (hi.init y q hy hq)⟩
 cases hs : BQ vis y with
 | true => exact (hi.seen (hb hb') y hs).mono hg hz hh ha
 | false =>
  rcases hv2 y hy with hy2 | rfl
  .rw [hs] at hy2; cases hy2
  exact hr hb' hs hy
theorem PE {b : Bool} {z : List Int} {e m : Int} (hm : m ∈ z) : m ∈ (BJ b z e).2.2 := by
 unfold BJ
 split
 .exact hm
 split
 .exact hm
 exact List.mem_append_left _ hm
theorem Gp {b : Bool} {z : List Int} {e : Int} (h : (BJ b z e).2.1 = false) : b = false /\ (BJ b z e).1 = true /\ e ∈ (BJ b z e).2.2 := by
 unfold BJ at *
 split
 .rename_i c; rw [if_pos c] at h; exact ⟨h, rfl, c⟩
 rename_i c
 rw [if_neg c] at h
 split
 .rename_i d; rw [if_pos d] at h; cases h
 rename_i d; rw [if_neg d] at h; exact ⟨h, rfl, by simp⟩
theorem Kl {l : List AF} {x y : AF} (h : y ∈ l) : y ∈ EE p l x := by
 unfold EE
 split
 .exact List.mem_append_left _ h
 exact h
theorem MG {l : List AF} {x y : AF} (h : Aw p x = some y) : y ∈ EE p l x := by
 unfold EE
 rw [h]
 simp
theorem Zh {st : List AT} {nd : List AJ} {b : Bool} {vis : List (AF × Bool)} {g : List AJ} {z h : List Int} {l : List AF} {x : AF} (hi : KI p st nd b vis g z h (l ++ [x])) {s : FS} (hs : s = LB p st nd b vis g z h l x) :
  KI p st nd s.1 s.2.1 s.2.2.1 s.2.2.2.1 s.2.2.2.2.1 s.2.2.2.2.2 := by
 have sx : BQ (BE x true vis) x = true := (FW vis x x).2 (.inl rfl)
 have s1 : ∀ y, BQ vis y = true -> BQ (BE x true vis) y = true := fun y hy => (FW vis x y).2 (.inr hy)
 have s2 : ∀ y, BQ (BE x true vis) y = true -> BQ vis y = true \/ y = x := fun y hy => ((FW vis x y).1 hy).symm
 unfold LB at hs
 by_cases c : x.elem ∈ st.map (·.elem) \/ BQ vis x = true
 .rw [if_pos c] at hs
  subst hs
  exact hi.next (fun h => h) (fun _ h => h) (fun _ h => .inl h) (fun _ h => h) c.symm (fun _ h => h) (fun _ h => h) (fun _ h => h) fun _ hn hy => (by rw [hn] at hy; cases hy)
 rw [if_neg c] at hs
 by_cases k1 : 0 <= Ay p x /\ p.hard = false
 .rw [if_pos k1] at hs
  subst hs
  refine hi.next (fun h => h) s1 s2 (fun _ h => h) (.inl sx) (fun _ h => h) (fun _ h => h) (fun m hm => ?_) fun _ _ _ => ⟨fun _ => ?_, fun q => absurd k1 q, fun q => absurd k1 q, fun q => absurd k1 q, fun q => absurd k1 q⟩
  .dsimp only; split
   .exact hm
   exact List.mem_append_left _ hm
  dsimp only; split
  .assumption
  simp
 rw [if_neg k1] at hs
 by_cases k4 : Ah p x.elem = 4
 .rw [if_pos k4] at hs
  subst hs
  exact hi.next (fun h => (by cases h)) s1 s2 (fun _ h => h) (.inl sx) (fun _ h => h) (fun _ h => h) (fun _ h => h) fun h => (by cases h)
 rw [if_neg k4] at hs
 by_cases k2 : Ah p x.elem = 2
 .rw [if_pos k2] at hs
  by_cases f0 : x.fin = 0
  .rw [if_pos f0] at hs
   subst hs
   refine hi.next (fun hb => (Gp hb).1) s1 s2 (fun y hy => ?_) (.inl sx) (fun _ h => h) (fun _ h => PE h) (fun _ h => h) fun hb _ _ => ⟨fun q => absurd q k1, fun _ => k4, fun _ _ _ => ⟨(Gp hb).2.2, fun o ho y hy => .inl ?_⟩, fun _ _ f => absurd f0 f, fun _ q => absurd k2 q⟩
   .dsimp only; split
    .exact Kl (Kl hy)
    exact hy
   dsimp only
   rw [if_pos (Gp hb).2.1]
   rcases ho with rfl | rfl
   .exact MG hy
   exact Kl (MG hy)
  rw [if_neg f0] at hs
  by_cases a : (⟨x.elem, x.fin⟩ : AJ) ∈ nd \/ (⟨x.elem, x.fin⟩ : AJ) ∈ g
  .rw [if_pos a] at hs
   subst hs
   refine hi.next (fun hb => (Gp hb).1) s1 s2 (fun y hy => ?_) (.inl sx) (fun _ h => h) (fun _ h => PE h) (fun _ h => h) fun hb _ _ => ⟨fun q => absurd q k1, fun _ => k4, fun _ _ f => absurd f f0, fun _ _ _ => .inl ⟨(Gp hb).2.2, fun y hy => .inl ?_⟩, fun _ q => absurd k2 q⟩
   .dsimp only; split
    .exact Kl hy
    exact hy
   dsimp only
   rw [if_pos (Gp hb).2.1]
   exact MG hy
  rw [if_neg a] at hs
  subst hs
  refine hi.next (fun h => h) s1 s2 (fun _ h => h) (.inl sx) (fun m hm => ?_) (fun _ h => h) (fun _ h => h) fun hb _ _ => ⟨fun q => absurd q k1, fun _ => k4, fun _ _ f => absurd f f0, fun _ _ _ => .inr ?_, fun _ q => absurd k2 q⟩
  .dsimp only; split
   .exact hm
   exact List.mem_append_left _ hm
  dsimp only; split
  .assumption
  simp
 rw [if_neg k2] at hs
 cases ht : BX p x.elem x.fin 0 with
 | none =>
  rw [ht] at hs
  subst hs
  exact hi.next (fun h => h) s1 s2 (fun _ h => h) (.inl sx) (fun _ h => h) (fun _ h => h) (fun _ h => h) fun hb _ _ => ⟨fun q => absurd q k1, fun _ => k4, fun _ q => absurd q k2, fun _ q => absurd q k2, fun _ _ o ho => (by rw [ht] at ho; cases ho)⟩
 | some o =>
  rw [ht] at hs
  subst hs
  refine hi.next (fun hb => (Gp hb).1) s1 s2 (fun y hy => ?_) (.inl sx) (fun _ h => h) (fun _ h => PE h) (fun _ h => h) fun hb _ _ => ⟨fun q => absurd q k1, fun _ => k4, fun _ q => absurd q k2, fun _ q => absurd q k2, fun _ _ o' ho => ?_⟩
  .dsimp only; split
   .exact Kl hy
   exact hy
  rw [ht] at ho
  cases ho
  refine ⟨(Gp hb).2.2, fun y hy => .inl ?_⟩
  dsimp only
  rw [if_pos (Gp hb).2.1]
  exact MG hy
theorem Va (hv : CD p) (hn : B0 p n) (h1 : r.steps.length <= 12) (h2 : r.needs.length <= 1000) : ∃ g z h b, C8 n r = some ⟨r.frm, r.to, r.fin, r.steps, r.needs, g, z, h, b⟩ /\ S4 p r.steps z /\ V4 p r.steps g /\ (p.hard = true -> h = []) /\ g.length <= 700 /\ h.length <= 700 /\
  ∃ vis, KI p r.steps r.needs b vis g z h [] := by
 have hj := hv.nj
 have hp := FV (p := p) r.steps
 rw [Mg hv hn h1 h2]
 obtain ⟨R, e1, g, z, h, b, rfl, e2⟩ := ED (step := Bx n r r.steps r.needs p) (Post := fun R => ∃ g z h b, R = (⟨r.frm, r.to, r.fin, r.steps, r.needs, g, z, h, b⟩ : AO) /\ S4 p r.steps z /\ V4 p r.steps g /\ (p.hard = true -> h = []) /\ g.length <= 700 /\ h.length <= 700 /\ ∃ vis, KI p r.steps r.needs b vis g z h [])
  (fun k s => FI p r.steps 700 k s.2.1 s.2.2.1 s.2.2.2.1 s.2.2.2.2.1 s.2.2.2.2.2 /\ KI p r.steps r.needs s.1 s.2.1 s.2.2.1 s.2.2.2.1 s.2.2.2.2.1 s.2.2.2.2.2) 700 (s := (false, [], [], [], [], (CO p (CN p r.steps)).reverse)) (by
   rintro k ⟨b, vis, g, z, h, l⟩ ⟨hi, hk⟩
   have hm := hi.meas
   have hlg := hi.lg
   have hlh := hi.lh
   have hzl := hi.zok.len
   dsimp only at hm hlg hlh hzl hi hk
   rcases List.eq_nil_or_concat l with rfl | ⟨l', x, rfl⟩
   .left
    exact ⟨_, rfl, g, z, h, b, rfl, hi.zok, hi.gok, hi.hold, by omega, by omega, vis, hk⟩
   .right
    rw [List.concat_eq_append] at hi hm hk ⊢
    simp only [List.length_append, List.length_cons, List.length_nil] at hm
    refine ⟨by omega, _, Nx hn h1 h2 b vis g z h l' x (by omega) (by omega) (by omega) (by omega), SE hv hi rfl, Zh hk rfl⟩) (by
   refine ⟨⟨⟨by simp, by simp, by simp, by simp⟩, ⟨by simp, by simp⟩, fun _ => rfl, fun y hy => ?_, by simp, by simp, ?_⟩, fun _ x hx => ?_, fun x y hx hy => .inl ?_⟩
   .have := List.mem_reverse.1 hy
    obtain ⟨x, hx, rfl⟩ := List.mem_map.1 this
    obtain ⟨y, hy⟩ := H6 hx
    rw [hy]
    exact FX hy
   .have h3 : GR p [] <= (Bj p).length := List.length_filter_le _ _
    have h4 : (Bj p).length = 2 * p.joins.length := Ea _
    simp only [CO, List.length_reverse, List.length_map]
    omega
   .simp [BQ, As] at hx
   rw [List.mem_reverse]
   exact List.mem_map.2 ⟨x, hx, by rw [hy]; rfl⟩)
 exact ⟨g, z, h, b, e1, e2⟩
end
end Go.E
/- Plain Lean: whether a road's flank keeps all others out, told without an order (MH, PG), and the program's answer. No condition. -/
namespace Go.E
open Go
def CQ (nl : List AJ) (e : Int) : Option Int := (nl.find? fun m => m.elem == e).map (·.pos)
def LC (lay : Int -> Option Int) (e : Int) (w : BS) : List Int := if w.pos = 0 \/ lay e = none \/ lay e = some w.pos then [w.out] else []
def Ch (p : AN) (lay : Int -> Option Int) (x : AF) : List Int := (BU p x.elem x.fin).flatMap (LC lay x.elem)
def Du (p : AN) (holds : List Int) (x : AF) : Prop := p.hard = false /\ 0 <= Ay p x /\ Ay p x ∈ holds
instance (p : AN) (holds : List Int) (x : AF) : Decidable (Du p holds x) := by unfold Du; infer_instance
def Dv (p : AN) (lay : Int -> Option Int) (zone : List Int) (x : AF) : Prop := Ah p x.elem ≠ 4 /\ (Ch p lay x ≠ [] -> x.elem ∈ zone)
instance (p : AN) (lay : Int -> Option Int) (zone : List Int) (x : AF) : Decidable (Dv p lay zone x) := by unfold Dv; infer_instance
inductive N0 (p : AN) (lay : Int -> Option Int) (holds : List Int) (st : List AT) : AF -> Prop
 | init {x y : AF} : x ∈ CN p st -> Aw p x = some y -> N0 p lay holds st y
 | step {x y : AF} {o : Int} : N0 p lay holds st x -> x.elem ∉ st.map (·.elem) -> ¬ Du p holds x -> o ∈ Ch p lay x -> Aw p ⟨x.elem, o⟩ = some y -> N0 p lay holds st y
def MH (p : AN) (lay : Int -> Option Int) (holds zone : List Int) (st : List AT) : Prop := ∀ x, N0 p lay holds st x -> x.elem ∉ st.map (·.elem) -> ¬ Du p holds x -> Dv p lay zone x
def HV (nl : List AJ) : Prop := ∀ a ∈ nl, ∀ b ∈ nl, a.elem = b.elem -> a.pos = b.pos
structure PG (p : AN) (r : AO) : Prop where
 cons : HV (r.needs ++ r.guards)
 guard : ∀ m ∈ r.guards, Ah p m.elem = 2 /\ (m.pos = 1 \/ m.pos = 2)
 zone : ∀ e ∈ r.zone, 0 <= e /\ e < p.elems.length /\ e ∉ r.steps.map (·.elem)
 hold : ∀ s ∈ r.holds, 0 <= s /\ s < p.signals.length
 kept : MH p (CQ (r.needs ++ r.guards)) r.holds r.zone r.steps
theorem N1 (p : AN) (lay : Int -> Option Int) (x : AF) : (Ch p lay x).length <= 2 := by
 have h1 := FU p x.elem x.fin
 have h2 := H4 (LC lay x.elem) 1 (BU p x.elem x.fin) (fun w _ => by unfold LC; split <;> simp)
 unfold Ch
 omega
section
variable {p : AN} {n : BL} {r : AO} {lay : Int -> Option Int} {holds zone : List Int} {st : List AT}
theorem N0.in_ports {x : AF} (h : N0 p lay holds st x) : x ∈ Bj p := by
 cases h with
 | init _ h2 => exact FX h2
 | step _ _ _ _ h2 => exact FX h2
structure GI (p : AN) (lay : Int -> Option Int) (holds zone : List Int) (st : List AT) (V : AF -> Prop) (q : List AF) : Prop where
 arr : ∀ x ∈ q, N0 p lay holds st x
 full : ∀ x, V x -> x.elem ∉ st.map (·.elem) -> ¬ Du p holds x -> Dv p lay zone x /\ ∀ o ∈ Ch p lay x, ∀ y, Aw p ⟨x.elem, o⟩ = some y -> y ∈ q \/ V y
 init : ∀ x y, x ∈ CN p st -> Aw p x = some y -> y ∈ q \/ V y
theorem GI.done {V : AF -> Prop} (h : GI p lay holds zone st V []) : MH p lay holds zone st := by
 have key : ∀ x, N0 p lay holds st x -> V x := by
  intro x hx
  induction hx with
  | init h1 h2 => exact (h.init _ _ h1 h2).resolve_left (by simp)
  | step _ h2 h3 h4 h5 ih => exact ((h.full _ ih h2 h3).2 _ h4 _ h5).resolve_left (by simp)
 exact fun x hx h1 h2 => (h.full x (key x hx) h1 h2).1
theorem GI.bad {V : AF -> Prop} {x : AF} {q : List AF} (h : GI p lay holds zone st V (x :: q)) (h1 : x.elem ∉ st.map (·.elem)) (h2 : ¬ Du p holds x) (hb : ¬ Dv p lay zone x) : ¬ MH p lay holds zone st :=
 fun hk => hb (hk x (h.arr x (by simp)) h1 h2)
theorem GI.next {V V' : AF -> Prop} {x : AF} {q q' : List AF} (h : GI p lay holds zone st V (x :: q)) (hV : ∀ y, V y -> V' y) (hx : V' x) (hV2 : ∀ y, V' y -> V y \/ y = x) (hq : ∀ y ∈ q, y ∈ q') (hq2 : ∀ y ∈ q', N0 p lay holds st y)
  (hf : ¬ V x -> x.elem ∉ st.map (·.elem) -> ¬ Du p holds x -> Dv p lay zone x /\ ∀ o ∈ Ch p lay x, ∀ y, Aw p ⟨x.elem, o⟩ = some y -> y ∈ q' \/ V' y) : GI p lay holds zone st V' q' := by
 have keep : ∀ y, y ∈ x :: q \/ V y -> y ∈ q' \/ V' y := by
  rintro y (hy | hy)
  .rcases List.mem_cons.1 hy with rfl | hy
   .exact .inr hx
   exact .inl (hq y hy)
  exact .inr (hV y hy)
 refine ⟨hq2, fun y hy h1 h2 => ?_, fun a b ha hb => keep b (h.init a b ha hb)⟩
 by_cases c : V y
 .have := h.full y c h1 h2
  exact ⟨this.1, fun o ho z hz => keep z (this.2 o ho z hz)⟩
 rcases hV2 y hy with hy2 | rfl
 .exact absurd hy2 c
 exact hf c h1 h2
def G8 (p : AN) (e : Int) (l : List Int) : List AF := l.flatMap fun o => match Aw p ⟨e, o⟩ with
 | some y => [y]
 | none => []
theorem Ra {e o : Int} {l : List Int} {y : AF} : y ∈ G8 p e l ↔ ∃ o ∈ l, Aw p ⟨e, o⟩ = some y := by
 unfold G8
 rw [List.mem_flatMap]
 constructor
 .rintro ⟨o, ho, hy⟩
  cases hx : Aw p ⟨e, o⟩ with
  | none => rw [hx] at hy; cases hy
  | some z => rw [hx] at hy; simp at hy; subst hy; exact ⟨o, ho, hx⟩
 rintro ⟨o, ho, hy⟩
 exact ⟨o, ho, by rw [hy]; simp⟩
theorem Rb (e : Int) (l : List Int) : (G8 p e l).length <= l.length := by
 have := H4 (fun o => match Aw p ⟨e, o⟩ with | some y => [y] | none => []) 1 l (fun o _ => by split <;> simp)
 unfold G8
 omega
theorem GI.go {V V' : AF -> Prop} {x : AF} {q : List AF} (h : GI p lay holds zone st V (x :: q)) (h1 : x.elem ∉ st.map (·.elem)) (h2 : ¬ Du p holds x) (hg : Dv p lay zone x) (hV : ∀ y, V' y ↔ V y \/ y = x) : GI p lay holds zone st V' (q ++ G8 p x.elem (Ch p lay x)) := by
 have hx := h.arr x (by simp)
 refine h.next (fun y hy => (hV y).2 (.inl hy)) ((hV x).2 (.inr rfl)) (fun y hy => (hV y).1 hy) (fun y hy => List.mem_append_left _ hy) (fun y hy => ?_) (fun _ _ _ => ⟨hg, fun o ho y hy => .inl (List.mem_append_right _ (Ra (o := o) |>.2 ⟨o, ho, hy⟩))⟩)
 rcases List.mem_append.1 hy with hy | hy
 .exact h.arr y (by simp [hy])
 obtain ⟨o, ho, hy⟩ := (Ra (o := 0)).1 hy
 exact .step hx h1 h2 ho hy
theorem Yu (hn : B0 p n) (x : AF) (m : List (Int × Int)) (hm : ∀ e, As m e = lay e) : Gz n x m = some (Ch p lay x) := by
 unfold Gz Ch
 have hl := FU p x.elem x.fin
 simp only [H3 hn, Option.bind_some]
 generalize BU p x.elem x.fin = L at hl
 have := H5 0 (l := L) (LC lay x.elem) (fun w => by unfold LC; split <;> simp) (by omega) (step := El x m L) (fin := fun o => o) (fun o => by simp only [El, Bu, cond_false]) (fun i w o ha hb => by
  have := BW ha
  simp only [El, BF ha, cond_true, Ai, ha, Option.bind_some, hm, Ab (show i < 1000000000 by omega)]
  unfold LC
  have ap := A2 (show o.length + [w.out].length <= 4294967296 by simp; omega)
  by_cases c : w.pos = 0
  .simp [c, ap]
  have cb : (w.pos == 0) = false := beq_eq_false_iff_ne.2 c
  cases hy : lay x.elem with
  | none => simp [c, cb, ap]
  | some q =>
   by_cases d : w.pos = q
   .subst d; simp [c, cb, ap]
   have db : (w.pos == q) = false := beq_eq_false_iff_ne.2 d
   have de : ¬ q = w.pos := fun h => d h.symm
   simp [c, cb, db, de]) [] (by simp)
 simpa using this
theorem W5 (hn : B0 p n) (s : List AF × List (AF × Bool)) (x : AF) (l : List Int) (hl : l.length <= 10) (q : List AF) (hq : q.length <= 1000) : AQ (DE n s x l) (0, q) = some (.inl (q ++ G8 p x.elem l, BE x true s.2)) := by
 unfold G8
 exact H5 1000 (l := l) (fun o => match Aw p ⟨x.elem, o⟩ with | some y => [y] | none => []) (fun o => by split <;> simp) (by omega) (step := DE n s x l) (fin := fun o => (Sum.inl (o, BE x true s.2) : (List AF × List (AF × Bool)) ⊕ Bool)) (fun o => by simp only [DE, Bu, cond_false]) (fun i a o ha hb => by
  have := BW ha
  simp only [DE, BF ha, cond_true, Ai, ha, Option.bind_some, Ew hn, Ab (show i < 1000000000 by omega)]
  cases Aw p ⟨x.elem, a⟩ with
  | none => simp
  | some y => simp [A2 (show o.length + [y].length <= 4294967296 by simp; omega)]) q hq
theorem TT (hn : B0 p n) (h1 : r.steps.length <= 1000) (h2 : r.zone.length <= 1000) (h3 : r.holds.length <= 1000) (y3 : List (Int × Int) × Bool) (hm : ∀ e, As y3.1 e = lay e) (x : AF) (q : List AF) (hq : q.length <= 1000) (vis : List (AF × Bool)) :
  CM n r y3 p (x :: q, vis) = some (if BQ vis x = true \/ x.elem ∈ r.steps.map (·.elem) \/ Du p r.holds x then .inl (q, vis) else if Dv p lay r.zone x then .inl (q ++ G8 p x.elem (Ch p lay x), BE x true vis) else .inr false) := by
 have d : decide ((0 : Int) < (((x :: q).length : Nat) : Int)) = true := by simp
 have e0 : Ak (x :: q) 0 = some x := rfl
 have vb : (As vis x).getD false = BQ vis x := rfl
 have es : (bif !p.hard then (Bv n x).bind fun y2018 => bif decide (0 <= y2018) then (Bv n x).bind fun y2021 => (BV r.holds y2021).bind fun y2023 => some y2023 else some false else some false : Option Bool) = some (decide (Du p r.holds x)) := by
  unfold Du
  simp only [I9 hn, Option.bind_some, Jf r.holds (show r.holds.length < 1000000 by omega)]
  by_cases hh : p.hard = true
  .simp [hh]
  have hf : p.hard = false := by simpa using hh
  by_cases c : 0 <= Ay p x
  .simp [hf, c]
  simp [hf, c]
 have eb : (bif BQ vis x then some true else (FH r x.elem).bind fun y2013 => bif y2013 then some true else (bif !p.hard then (Bv n x).bind fun y2018 => bif decide (0 <= y2018) then (Bv n x).bind fun y2021 => (BV r.holds y2021).bind fun y2023 => some y2023 else some false else some false) : Option Bool) = some (decide (BQ vis x = true \/ x.elem ∈ r.steps.map (·.elem) \/ Du p r.holds x)) := by
  rw [es]
  cases hs : BQ vis x with
  | true => simp
  | false =>
   simp only [cond_false, Uo r (show r.steps.length < 1000000 by omega), Option.bind_some]
   by_cases c : x.elem ∈ r.steps.map (·.elem)
   .rw [decide_eq_true c]; simp only [cond_true, c, true_or, or_true, decide_true]
   rw [decide_eq_false c]; simp only [cond_false, c, false_or, Bool.false_eq_true]
 unfold CM
 simp only [d, cond_true, e0, Ur, Option.bind_some, vb]
 rw [eb]
 simp only [Option.bind_some]
 by_cases c : BQ vis x = true \/ x.elem ∈ r.steps.map (·.elem) \/ Du p r.holds x
 .rw [if_pos c, decide_eq_true c]; rfl
 rw [if_neg c, decide_eq_false c]
 simp only [cond_false, Dn hn, Option.bind_some, Yu hn x y3.1 hm, Jf r.zone (show r.zone.length < 1000000 by omega)]
 have hb := N1 p lay x
 by_cases k4 : Ah p x.elem = 4
 .have : ¬ Dv p lay r.zone x := fun h => h.1 k4
  rw [if_neg this, k4]; rfl
 have b4 : (Ah p x.elem == 4) = false := beq_eq_false_iff_ne.2 k4
 simp only [b4, cond_false]
 by_cases hg : Dv p lay r.zone x
 .rw [if_pos hg]
  have : (bif decide ((0 : Int) < ((Ch p lay x).length : Int)) then some (!decide (x.elem ∈ r.zone)) else some false : Option Bool) = some false := by
   by_cases hl : Ch p lay x = []
   .simp [hl]
   have := hg.2 hl
   simp [this]
  rw [this]
  simp only [Option.bind_some, cond_false]
  exact W5 hn _ x _ (by omega) q hq
 rw [if_neg hg]
 have : (bif decide ((0 : Int) < ((Ch p lay x).length : Int)) then some (!decide (x.elem ∈ r.zone)) else some false : Option Bool) = some true := by
  have hl : Ch p lay x ≠ [] := fun h => hg ⟨k4, fun h2 => absurd h h2⟩
  have hz : x.elem ∉ r.zone := fun h => hg ⟨k4, fun _ => h⟩
  have := List.length_pos_iff.2 hl
  have hd : decide ((0 : Int) < ((Ch p lay x).length : Int)) = true := decide_eq_true (by omega)
  rw [hd, decide_eq_false hz]; rfl
 rw [this]; rfl
theorem Py (l : List AT) : ∀ y ∈ CO p (CN p l), ∃ x ∈ CN p l, Aw p x = some y := fun y hy => by
 obtain ⟨x, hx, rfl⟩ := List.mem_map.1 hy
 obtain ⟨y, h⟩ := H6 hx
 exact ⟨x, hx, by rw [h]; rfl⟩
theorem S7 {l : List AT} {x y : AF} (hx : x ∈ CN p l) (hy : Aw p x = some y) : y ∈ CO p (CN p l) := List.mem_map.2 ⟨x, hx, by rw [hy]; rfl⟩
theorem SH (hv : CD p) (hn : B0 p n) (h1 : r.steps.length <= 12) (h2 : r.zone.length <= 1000) (h3 : r.holds.length <= 1000) (y3 : List (Int × Int) × Bool) (hm : ∀ e, As y3.1 e = lay e) :
  ∃ b, AQ (CM n r y3 p) (CO p (CN p r.steps), []) = some b /\ (b = true ↔ MH p lay r.holds r.zone r.steps) := by
 have hj := hv.nj
 have hp := FV (p := p) r.steps
 have h4 : (Bj p).length = 2 * p.joins.length := Ea _
 refine ED (step := CM n r y3 p) (Post := fun b => b = true ↔ MH p lay r.holds r.zone r.steps)
  (fun k s => GI p lay r.holds r.zone r.steps (fun y => BQ s.2 y = true \/ y.elem ∈ r.steps.map (·.elem) \/ Du p r.holds y) s.1 /\ k + s.1.length + 3 * GR p s.2 <= 700) 700 ?_ ?_
 .rintro k ⟨q, vis⟩ ⟨hi, hms⟩
  dsimp only at hi hms
  cases q with
  | nil => exact .inl ⟨true, by simp [CM], fun _ => hi.done, fun _ => rfl⟩
  | cons x q =>
   simp only [List.length_cons] at hms
   rw [TT (lay := lay) hn (by omega) h2 h3 y3 hm x q (by omega) vis]
   by_cases c : BQ vis x = true \/ x.elem ∈ r.steps.map (·.elem) \/ Du p r.holds x
   .rw [if_pos c]
    refine .inr ⟨by omega, _, rfl, hi.next (fun _ h => h) c (fun _ h => .inl h) (fun _ h => h) (fun y hy => hi.arr y (by simp [hy])) fun q => absurd c q, by dsimp only; omega⟩
   rw [if_neg c]
   have c1 : x.elem ∉ r.steps.map (·.elem) := fun h => c (.inr (.inl h))
   have c2 : ¬ Du p r.holds x := fun h => c (.inr (.inr h))
   have c3 : BQ vis x = false := by cases hs : BQ vis x with | false => rfl | true => exact absurd (.inl hs) c
   by_cases hg : Dv p lay r.zone x
   .rw [if_pos hg]
    have hx := (hi.arr x (by simp)).in_ports
    have hlt := RW hx c3
    have hb := N1 p lay x
    have hnl := Rb (p := p) x.elem (Ch p lay x)
    refine .inr ⟨by omega, _, rfl, hi.go c1 c2 hg fun y => ?_, by simp only [List.length_append]; omega⟩
    dsimp only
    rw [FW]
    constructor
    .rintro ((h | h) | h)
     .exact .inr h
     .exact .inl (.inl h)
     exact .inl (.inr h)
    rintro ((h | h) | h)
    .exact .inl (.inr h)
    .exact .inr h
    exact .inl (.inl h)
   rw [if_neg hg]
   exact .inl ⟨false, rfl, fun h => (by cases h), fun h => absurd h (hi.bad c1 c2 hg)⟩
 refine ⟨⟨fun y hy => ?_, fun x hx h1 h2 => ?_, fun x y hx hy => .inl (S7 hx hy)⟩, ?_⟩
 .obtain ⟨x, hx, hy⟩ := Py r.steps y hy
  exact .init hx hy
 .rcases hx with h | h | h
  .simp [BQ, As] at h
  .exact absurd h h1
  exact absurd h h2
 have h3 : GR p [] <= (Bj p).length := List.length_filter_le _ _
 simp only [CO, List.length_map]
 omega
end
end Go.E
/- Plain Lean: a road that is guarded keeps all out, whatever way other points lie; what a flank keeps is guarded. No condition. -/
namespace Go.E
open Go
theorem MI {nl : List AJ} {e : Int} : CQ nl e = none ↔ ∀ m ∈ nl, m.elem ≠ e := by
 unfold CQ
 rw [Option.map_eq_none_iff, List.find?_eq_none]
 simp only [beq_iff_eq]
theorem N2 {nl : List AJ} {e q : Int} (h : CQ nl e = some q) : (⟨e, q⟩ : AJ) ∈ nl := by
 unfold CQ at h
 obtain ⟨m, hm, rfl⟩ := Option.map_eq_some_iff.1 h
 have h1 := List.mem_of_find?_eq_some hm
 have h2 := List.find?_some hm
 simp only [beq_iff_eq] at h2
 subst h2
 exact h1
theorem S8 {nl : List AJ} (hc : HV nl) {m : AJ} (hm : m ∈ nl) : CQ nl m.elem = some m.pos := by
 cases h : CQ nl m.elem with
 | none => exact absurd rfl (MI.1 h m hm)
 | some q => rw [hc m hm _ (N2 h) rfl]
section
variable {p : AN} {n : BL} {r : AO} {lay : Int -> Option Int} {holds zone : List Int} {st : List AT} {lie : List Int} {shut : List Bool}
end
end Go.E
/- Plain Lean: whether a road is guarded: the program's answer and the document's are one. No condition. -/
namespace Go.E
open Go
def Km (p : AN) (m : AJ) : Prop := Ah p m.elem = 2 /\ (m.pos = 1 \/ m.pos = 2)
instance (p : AN) (m : AJ) : Decidable (Km p m) := by unfold Km; infer_instance
theorem S9 (l : List AJ) (a : AJ) (e : Int) : CQ (l ++ [a]) e = match CQ l e with | some q => some q | none => if a.elem = e then some a.pos else none := by
 unfold CQ
 rw [List.find?_append]
 cases h : List.find? (fun m => m.elem == e) l with
 | some q => rfl
 | none =>
  by_cases c : a.elem = e
  .simp [c]
  simp [c]
theorem Rc {l : List AJ} {a : AJ} (h : HV l) (ha : ∀ q, CQ l a.elem = some q -> q = a.pos) : HV (l ++ [a]) := by
 intro x hx y hy e
 rcases List.mem_append.1 hx with hx1 | hx1
 .rcases List.mem_append.1 hy with hy1 | hy1
  .exact h x hx1 y hy1 e
  rw [List.mem_singleton.1 hy1] at e ⊢
  exact ha _ (by rw [<- e]; exact S8 h hx1)
 rw [List.mem_singleton.1 hx1] at e ⊢
 rcases List.mem_append.1 hy with hy1 | hy1
 .exact (ha _ (by rw [e]; exact S8 h hy1)).symm
 rw [List.mem_singleton.1 hy1]
section
variable {p : AN} {n : BL} {r : AO}
theorem W6 (hn : B0 p n) (r : AO) (h1 : r.needs.length <= 1000) (h2 : r.guards.length <= 1000) :
  ∃ t : List (Int × Int) × Bool, Gy n r = some t /\ ((t.2 = true /\ HV (r.needs ++ r.guards) /\ (∀ m ∈ r.guards, Km p m) /\ ∀ e, As t.1 e = CQ (r.needs ++ r.guards) e) \/ (t.2 = false /\ ¬ (HV (r.needs ++ r.guards) /\ ∀ m ∈ r.guards, Km p m))) := by
 unfold Gy
 have e1 : B9 r.needs = some r.needs := Gn _ (by omega)
 simp only [e1, Option.bind_some, A2 (show r.needs.length + r.guards.length <= 4294967296 by omega)]
 have hg : ∀ i m, r.needs.length <= i -> (r.needs ++ r.guards)[i]? = some m -> m ∈ r.guards := fun i m hi hm => by
  rw [List.getElem?_append_right hi] at hm
  exact List.mem_of_getElem? hm
 have hg2 : ∀ m ∈ r.guards, ∃ i, r.needs.length <= i /\ (r.needs ++ r.guards)[i]? = some m := fun m hm => by
  obtain ⟨i, hi⟩ := List.mem_iff_getElem?.1 hm
  exact ⟨r.needs.length + i, by omega, by rw [List.getElem?_append_right (by omega), Nat.add_sub_cancel_left]; exact hi⟩
 have hlen : (r.needs ++ r.guards).length <= 2000 := by simp; omega
 generalize r.needs ++ r.guards = L at hg hg2 hlen
 refine CR (l := L) (step := Dd n r L) (Post := fun t => (t.2 = true /\ HV L /\ (∀ m ∈ r.guards, Km p m) /\ ∀ e, As t.1 e = CQ L e) \/ (t.2 = false /\ ¬ (HV L /\ ∀ m ∈ r.guards, Km p m)))
  (fun i c => HV (L.take i) /\ (∀ k m, r.needs.length <= k -> k < i -> L[k]? = some m -> Km p m) /\ ∀ e, As c e = CQ (L.take i) e) ?_ ?_ ⟨fun a ha => (by simp at ha), fun k m _ hk => (by omega), fun e => rfl⟩
 .rintro c ⟨i1, i2, i3⟩
  rw [List.take_length] at i1
  refine ⟨(c, true), by simp only [Dd, Bu, cond_false], .inl ⟨rfl, i1, fun m hm => ?_, fun e => by rw [i3 e, List.take_length]⟩⟩
  obtain ⟨i, hi, hm⟩ := hg2 m hm
  exact i2 i m hi (BW hm) hm
 rintro i a c ha ⟨i1, i2, i3⟩
 have hi := BW ha
 have w := Ab (show i < 1000000000 by omega)
 have ht : (bif decide ((r.needs.length : Int) <= (i : Int)) then (Bz n a.elem).bind fun y => bif (y != 2) then some true else bif (a.pos != 1) then some (a.pos != 2) else some false else some false : Option Bool) = some (decide (r.needs.length <= i /\ ¬ Km p a)) := by
  unfold Km
  rw [Dn hn]
  by_cases c1 : r.needs.length <= i
  .have d1 : decide ((r.needs.length : Int) <= (i : Int)) = true := decide_eq_true (by omega)
   rw [d1]
   simp only [cond_true, Option.bind_some]
   by_cases c2 : Ah p a.elem = 2
   .have b2 : (Ah p a.elem != 2) = false := by simp [c2]
    rw [b2]
    by_cases c3 : a.pos = 1
    .simp [c1, c2, c3]
    have b3 : (a.pos != 1) = true := bne_iff_ne.2 c3
    rw [b3]
    by_cases c4 : a.pos = 2
    .simp [c1, c2, c3, c4]
    have b4 : (a.pos != 2) = true := bne_iff_ne.2 c4
    rw [b4]
    simp [c1, c2, c3, c4]
   have b2 : (Ah p a.elem != 2) = true := bne_iff_ne.2 c2
   rw [b2]
   simp [c1, c2]
  have d1 : decide ((r.needs.length : Int) <= (i : Int)) = false := decide_eq_false (by omega)
  rw [d1]; simp [c1]
 have hs : (bif (As c a.elem).isSome then some (((As c a.elem).getD 0) != a.pos) else some false : Option Bool) = some (match CQ (L.take i) a.elem with | some q => q != a.pos | none => false) := by
  rw [i3]
  cases CQ (L.take i) a.elem <;> simp
 have hu : Dd n r L ((i : Int), c) = bif decide (r.needs.length <= i /\ ¬ Km p a) then some (.inr ([], false)) else bif (match CQ (L.take i) a.elem with | some q => q != a.pos | none => false) then some (.inr ([], false)) else some (.inl (((i + 1 : Nat) : Int), BE a.elem a.pos c)) := by
  simp only [Dd, BF ha, cond_true, Ai, ha, Option.bind_some, w]
  rw [ht]
  simp only [Option.bind_some]
  rw [hs]
  simp only [Option.bind_some]
 rw [hu]
 have htake : L.take (i + 1) = L.take i ++ [a] := by
  rw [List.take_add_one, ha]; rfl
 by_cases c1 : r.needs.length <= i /\ ¬ Km p a
 .rw [decide_eq_true c1]
  exact .inl ⟨_, rfl, .inr ⟨rfl, fun h => c1.2 (h.2 a (hg i a c1.1 ha))⟩⟩
 rw [decide_eq_false c1]
 cases hy : CQ (L.take i) a.elem with
 | none =>
  refine .inr ⟨_, rfl, ?_, fun k m hk hk2 hm => ?_, fun e => ?_⟩
  .rw [htake]; exact Rc i1 fun q hq => by rw [hy] at hq; cases hq
  .by_cases e : k = i
   .subst e; rw [ha] at hm; cases hm; exact Decidable.byContradiction fun h => c1 ⟨hk, h⟩
   exact i2 k m hk (by omega) hm
  rw [EZ, htake, S9, i3]
  by_cases he : e = a.elem
  .subst he; simp [hy]
  rw [if_neg he]
  have : ¬ a.elem = e := fun h => he h.symm
  rw [if_neg this]
  cases CQ (L.take i) e <;> rfl
 | some q =>
  by_cases hq : q = a.pos
  .subst hq
   have : (a.pos != a.pos) = false := by simp
   simp only [this, cond_false]
   refine .inr ⟨_, rfl, ?_, fun k m hk hk2 hm => ?_, fun e => ?_⟩
   .rw [htake]; exact Rc i1 fun q hq => by rw [hy] at hq; cases hq; first | rfl | done
   .by_cases e : k = i
    .subst e; rw [ha] at hm; cases hm; exact Decidable.byContradiction fun h => c1 ⟨hk, h⟩
    exact i2 k m hk (by omega) hm
   rw [EZ, htake, S9, i3]
   by_cases he : e = a.elem
   .subst he; simp [hy]
   rw [if_neg he]
   have : ¬ a.elem = e := fun h => he h.symm
   rw [if_neg this]
   cases CQ (L.take i) e <;> rfl
  have : (q != a.pos) = true := by simp [hq]
  simp only [this, cond_false, cond_true]
  refine .inl ⟨_, rfl, .inr ⟨rfl, fun h => hq ?_⟩⟩
  have h1 := N2 hy
  have h2 : (⟨a.elem, q⟩ : AJ) ∈ L := List.mem_of_mem_take h1
  exact h.1 _ h2 a (List.mem_of_getElem? ha) rfl
theorem Rd {β : Type} {L : List AF} (hL : L.length <= 1000) {step : Int × List AF -> Option ((Int × List AF) ⊕ β)} {fin : List AF -> Option β} (h0 : ∀ q, step ((L.length : Int), q) = (fin q).map .inr)
  (h1 : ∀ (i : Nat) x q, L[i]? = some x -> q.length <= 2000 -> step ((i : Int), q) = some (.inl (((i + 1 : Nat) : Int), q ++ [(Aw p x).getD ⟨0, 0⟩]))) : AQ step ((0 : Int), []) = fin (CO p L) := by
 have key : ∀ (rest : List AF) (i : Nat) (q : List AF), L.drop i = rest -> i <= L.length -> q.length = i -> AQ step ((i : Int), q) = fin (q ++ CO p rest) := by
  intro rest
  induction rest with
  | nil =>
   intro i q hd hi hq
   have : i = L.length := by have := congrArg List.length hd; simp at this; omega
   subst this
   rw [Gg, h0]
   simp only [CO, List.map_nil, List.append_nil]
   cases fin q <;> rfl
  | cons a r ih =>
   intro i q hd hi hq
   have hlt : i < L.length := by have := congrArg List.length hd; simp at this; omega
   have ha : L[i]? = some a := by
    have : (L.drop i)[0]? = some a := by rw [hd]; rfl
    simpa using this
   have hr : L.drop (i + 1) = r := by
    have : (L.drop i).drop 1 = r := by rw [hd]; rfl
    rwa [List.drop_drop] at this
   rw [CA (h1 i a q ha (by omega)), ih (i + 1) _ hr (by omega) (by simp [hq])]
   simp [CO]
 simpa using key L 0 [] rfl (Nat.zero_le _) rfl
theorem W7 (hn : B0 p n) (y3 : List (Int × Int) × Bool) (h1 : r.steps.length <= 12) : AQ (Dz n r y3 p (CN p r.steps)) (0, []) = AQ (CM n r y3 p) (CO p (CN p r.steps), []) := by
 have hp := FV (p := p) r.steps
 exact Rd (L := CN p r.steps) (by omega) (fin := fun q => AQ (CM n r y3 p) (q, [])) (fun q => by simp only [Dz, Bu, cond_false]) (fun i x q hx hq => by
  have := BW hx
  simp only [Dz, BF hx, cond_true, Ai, hx, Option.bind_some, Ew hn, A2 (show q.length + [(Aw p x).getD (⟨0, 0⟩ : AF)].length <= 4294967296 by simp; omega), Ab (show i < 1000000000 by omega)])
theorem W8 (hv : CD p) (hn : B0 p n) (h1 : r.steps.length <= 12) (h2 : r.needs.length <= 1000) (h3 : r.guards.length <= 1000) (h4 : r.zone.length <= 1000) (h5 : r.holds.length <= 1000) : ∃ b, FJ n r = some b /\ (b = true ↔ PG p r) := by
 obtain ⟨t, e1, e2⟩ := W6 hn r h2 h3
 unfold FJ
 rw [e1]
 simp only [Option.bind_some]
 rcases e2 with ⟨e2, e3, e4, e5⟩ | ⟨e2, e3⟩
 .rw [e2]
  simp only [Bool.not_true, cond_false]
  have e6 : Cy n = some p := by unfold Cy; rw [hn.plan, SA p hv.few]; rfl
  have e7 : E7 n = some (p.elems.length : Int) := Ze hn
  have e8 : CW n = some (p.signals.length : Int) := by unfold CW; rw [hn.plan]
  obtain ⟨b, e9, e10⟩ := SH (lay := CQ (r.needs ++ r.guards)) hv hn h1 h4 h5 t e5
  have l2 : AQ (D0 n r t) 0 = if r.holds.any (fun s => !decide (0 <= s /\ s < (p.signals.length : Int))) = true then some false else some b := by
   refine Ff (l := r.holds) _ false (some b) ?_ fun i s hs => ?_
   .simp only [D0, Bu, cond_false, e6, Option.bind_some, Uq hn r (show r.steps.length <= 1000 by omega)]
    rw [W7 hn t h1, e9]
   have := BW hs
   simp only [D0, BF hs, cond_true, Ai, hs, Option.bind_some, e8, Ab (show i < 1000000000 by omega)]
   by_cases c1 : s < 0
   .have c2 : ¬ (0 <= s /\ s < (p.signals.length : Int)) := by omega
    simp [c1, c2]
   by_cases c2 : (p.signals.length : Int) <= s
   .have c3 : ¬ (0 <= s /\ s < (p.signals.length : Int)) := by omega
    simp [c1, c2, c3]
   have c3 : (0 <= s /\ s < (p.signals.length : Int)) := by omega
   simp [c1, c2, c3]
  have l1 : AQ (D1 n r t) 0 = if r.zone.any (fun e => !decide (0 <= e /\ e < (p.elems.length : Int) /\ e ∉ r.steps.map (·.elem))) = true then some false else if r.holds.any (fun s => !decide (0 <= s /\ s < (p.signals.length : Int))) = true then some false else some b := by
   refine Ff (l := r.zone) _ false _ ?_ fun i e he => ?_
   .simp only [D1, Bu, cond_false]
    rw [l2]
   have := BW he
   simp only [D1, BF he, cond_true, Ai, he, Option.bind_some, e7, Uo r (show r.steps.length < 1000000 by omega), Ab (show i < 1000000000 by omega)]
   by_cases c1 : e < 0
   .have c3 : ¬ (0 <= e /\ e < (p.elems.length : Int) /\ e ∉ r.steps.map (·.elem)) := by omega
    rw [decide_eq_true c1, decide_eq_false c3]; rfl
   rw [decide_eq_false c1]
   by_cases c2 : (p.elems.length : Int) <= e
   .have c3 : ¬ (0 <= e /\ e < (p.elems.length : Int) /\ e ∉ r.steps.map (·.elem)) := by omega
    rw [decide_eq_true c2, decide_eq_false c3]; rfl
   rw [decide_eq_false c2]
   by_cases c4 : e ∈ r.steps.map (·.elem)
   .have c3 : ¬ (0 <= e /\ e < (p.elems.length : Int) /\ e ∉ r.steps.map (·.elem)) := fun h => h.2.2 c4
    rw [decide_eq_true c4, decide_eq_false c3]; rfl
   have c3 : (0 <= e /\ e < (p.elems.length : Int) /\ e ∉ r.steps.map (·.elem)) := ⟨by omega, by omega, c4⟩
   rw [decide_eq_false c4, decide_eq_true c3]; rfl
  rw [l1]
  by_cases c1 : r.zone.any (fun e => !decide (0 <= e /\ e < (p.elems.length : Int) /\ e ∉ r.steps.map (·.elem))) = true
  .rw [if_pos c1]
   refine ⟨false, rfl, fun h => (by cases h), fun h => ?_⟩
   obtain ⟨e, he, hb⟩ := List.any_eq_true.1 c1
   have := h.zone e he
   simp only [Bool.not_eq_true', decide_eq_false_iff_not] at hb
   exact absurd this hb
  rw [if_neg c1]
  by_cases c2 : r.holds.any (fun s => !decide (0 <= s /\ s < (p.signals.length : Int))) = true
  .rw [if_pos c2]
   refine ⟨false, rfl, fun h => (by cases h), fun h => ?_⟩
   obtain ⟨e, he, hb⟩ := List.any_eq_true.1 c2
   have := h.hold e he
   simp only [Bool.not_eq_true', decide_eq_false_iff_not] at hb
   exact absurd this hb
  rw [if_neg c2]
  refine ⟨b, rfl, fun h => ⟨e3, e4, fun e he => ?_, fun s hs => ?_, e10.1 h⟩, fun h => e10.2 h.kept⟩
  .refine Decidable.byContradiction fun hb => c1 (List.any_eq_true.2 ⟨e, he, ?_⟩)
   simp only [Bool.not_eq_true', decide_eq_false_iff_not]; exact hb
  refine Decidable.byContradiction fun hb => c2 (List.any_eq_true.2 ⟨s, hs, ?_⟩)
  simp only [Bool.not_eq_true', decide_eq_false_iff_not]; exact hb
 rw [e2]
 exact ⟨false, rfl, fun h => (by cases h), fun h => absurd ⟨h.cons, h.guard⟩ e3⟩
def NA (a b : List AJ) : Bool := a.any fun m => b.any fun k => m.elem == k.elem && m.pos != k.pos
theorem Vb {a b : List AJ} : NA a b = true ↔ ∃ m ∈ a, ∃ k ∈ b, m.elem = k.elem /\ m.pos ≠ k.pos := by
 unfold NA
 simp only [List.any_eq_true, Bool.and_eq_true, beq_iff_eq, bne_iff_ne]
theorem PH {l : List AJ} : NA l l = false ↔ HV l := by
 rw [<- Bool.not_eq_true, Vb]
 constructor
 .intro h a ha b hb e
  exact Decidable.byContradiction fun q => h ⟨a, ha, b, hb, e, q⟩
 rintro h ⟨a, ha, b, hb, e, q⟩
 exact q (h a ha b hb e)
theorem W9 (a b : List AJ) (ha : a.length < 1000000) (hb : b.length < 1000000) : G0 a b = some (NA a b) := by
 unfold G0 NA
 have l1 := Ff (l := a) (step := Ep a b) (fun m => b.any fun k => m.elem == k.elem && m.pos != k.pos) true (some false) (by simp only [Ep, Bu, cond_false]; rfl) (fun i m hm => by
  have hi := BW hm
  have l2 := Ff (l := b) (step := Eo a b (i : Int)) (fun k => m.elem == k.elem && m.pos != k.pos) (.inr true) (some (.inl ((i + 1 : Nat) : Int))) (by simp only [Eo, Bu, cond_false, Ab (show i < 1000000000 by omega)]; rfl) (fun j k hk => by
   have := BW hk
   simp only [Eo, BF hk, cond_true, Ai, hk, hm, Option.bind_some, Ab (show j < 1000000000 by omega)]
   cases (m.elem == k.elem) <;> cases (m.pos != k.pos) <;> rfl)
  simp only [Ep, BF hm, cond_true, l2])
 rw [l1]
 cases (a.any fun m => b.any fun k => m.elem == k.elem && m.pos != k.pos) <;> rfl
theorem AAJ (r : AO) (h2 : r.needs.length <= 1000) (h3 : r.guards.length <= 1000) : Kc r = some (r.needs ++ r.guards) := by
 unfold Kc
 simp only [A2 (show ([] : List AJ).length + r.needs.length <= 4294967296 by simp; omega), List.nil_append, Option.bind_some, A2 (show r.needs.length + r.guards.length <= 4294967296 by omega)]
theorem Zi (nl : List AJ) (hl : nl.length < 1000000) (x : AF) : AQ (DA nl x) (1, []) = some ((if (⟨x.elem, 2⟩ : AJ) ∈ nl then [] else [1]) ++ if (⟨x.elem, 1⟩ : AJ) ∈ nl then [] else [2]) := by
 have w1 : AR (3 - 1) = 2 := by decide
 have w2 : AR (3 - 2) = 1 := by decide
 have w3 : AR (1 + 1) = 2 := by decide
 have w4 : AR (2 + 1) = 3 := by decide
 have a1 : ∀ o : List Int, o.length <= 2 -> ∀ y, A8 o [y] = some (o ++ [y]) := fun o ho y => A2 (by simp; omega)
 have s1 : ∀ o : List Int, o.length <= 1 -> DA nl x (1, o) = some (.inl (2, o ++ if (⟨x.elem, 2⟩ : AJ) ∈ nl then [] else [1])) := fun o ho => by
  simp only [DA, show decide ((1 : Int) <= 2) = true from rfl, cond_true, w1, w3, Jg nl hl, Option.bind_some, a1 o (by omega)]
  by_cases c : (⟨x.elem, 2⟩ : AJ) ∈ nl <;> simp [c]
 have s2 : ∀ o : List Int, o.length <= 1 -> DA nl x (2, o) = some (.inl (3, o ++ if (⟨x.elem, 1⟩ : AJ) ∈ nl then [] else [2])) := fun o ho => by
  simp only [DA, show decide ((2 : Int) <= 2) = true from rfl, cond_true, w2, w4, Jg nl hl, Option.bind_some, a1 o (by omega)]
  by_cases c : (⟨x.elem, 1⟩ : AJ) ∈ nl <;> simp [c]
 have s3 : ∀ o : List Int, DA nl x (3, o) = some (.inr o) := fun o => by
  simp only [DA, show decide ((3 : Int) <= 2) = false from rfl, cond_false]
 rw [CA (s1 [] (by simp)), List.nil_append, CA (s2 _ (by split <;> simp)), Bc (s3 _)]
theorem Xy {nl : List AJ} (hc : HV nl) (hp : ∀ m ∈ nl, m.pos = 1 \/ m.pos = 2) {x : AF} (hx : Cg p x = true) (k2 : Ah p x.elem = 2) (f : 0 < x.fin) : Ch p (CQ nl) x = if (⟨x.elem, AR (3 - x.fin)⟩ : AJ) ∈ nl then [] else [0] := by
 obtain ⟨f1, f2, f3⟩ := Do hx
 have h' : Cg p ⟨x.elem, x.fin⟩ = true := hx
 rw [k2] at f3
 simp [CH] at f3
 have hw : AR (3 - x.fin) = 3 - x.fin := by rw [Ci] <;> omega
 have ho : BU p x.elem x.fin = [⟨0, x.fin⟩] := by
  unfold BU
  rw [h', if_pos rfl, if_neg (by omega), if_neg (by omega), if_pos k2, if_neg (by omega)]
 unfold Ch LC
 rw [ho, hw]
 simp only [List.flatMap_cons, List.flatMap_nil, List.append_nil]
 cases hy : CQ nl x.elem with
 | none =>
  have : (⟨x.elem, 3 - x.fin⟩ : AJ) ∉ nl := fun h => MI.1 hy _ h rfl
  simp [this]
 | some q =>
  have hm := N2 hy
  have hq := hp _ hm
  simp only at hq
  by_cases c : q = x.fin
  .subst c
   have : (⟨x.elem, 3 - x.fin⟩ : AJ) ∉ nl := fun h => by
    have := hc _ h _ hm rfl
    simp only at this
    omega
   simp [this]
  have e : q = 3 - x.fin := by omega
  rw [e] at hm
  have : ¬ (x.fin = 0 \/ (some q = none) \/ some q = some x.fin) := by simp; omega
  rw [if_neg this, if_pos hm]
theorem Xz {nl : List AJ} (hc : HV nl) (hp : ∀ m ∈ nl, m.pos = 1 \/ m.pos = 2) {x : AF} (hx : Cg p x = true) (k2 : Ah p x.elem = 2) (f : x.fin = 0) : Ch p (CQ nl) x = ((if (⟨x.elem, 2⟩ : AJ) ∈ nl then [] else [1]) ++ if (⟨x.elem, 1⟩ : AJ) ∈ nl then [] else [2]) /\ Ch p (CQ nl) x ≠ [] := by
 have h' : Cg p ⟨x.elem, x.fin⟩ = true := hx
 have ho : BU p x.elem x.fin = [⟨1, 1⟩, ⟨2, 2⟩] := by
  unfold BU
  rw [h', if_pos rfl, if_neg (by omega), if_neg (by omega), if_pos k2, if_pos f]
 unfold Ch LC
 rw [ho]
 simp only [List.flatMap_cons, List.flatMap_nil, List.append_nil]
 cases hy : CQ nl x.elem with
 | none =>
  have n1 : (⟨x.elem, 1⟩ : AJ) ∉ nl := fun h => MI.1 hy _ h rfl
  have n2 : (⟨x.elem, 2⟩ : AJ) ∉ nl := fun h => MI.1 hy _ h rfl
  simp [n1, n2]
 | some q =>
  have hm := N2 hy
  have hq := hp _ hm
  simp only at hq
  rcases hq with rfl | rfl
  .have n2 : (⟨x.elem, 2⟩ : AJ) ∉ nl := fun h => by
    have := hc _ h _ hm rfl
    simp at this
   simp [n2, hm]
  have n1 : (⟨x.elem, 1⟩ : AJ) ∉ nl := fun h => by
   have := hc _ h _ hm rfl
   simp at this
  simp [n1, hm]
theorem XA {lay : Int -> Option Int} {x : AF} (hx : Cg p x = true) (k2 : Ah p x.elem ≠ 2) (k4 : Ah p x.elem ≠ 4) : ∃ o, BX p x.elem x.fin 0 = some o /\ Ch p lay x = [o] := by
 obtain ⟨o, ho⟩ := PD hx k2 k4
 refine ⟨o, ho, ?_⟩
 obtain ⟨w, hw, hwo, hp⟩ := Lr ho
 have h0 : w.pos = 0 := by rcases hp with h | h <;> exact h
 rcases RT p x.elem x.fin with e | ⟨v, e⟩ | e
 .rw [e] at hw; cases hw
 .unfold Ch LC
  rw [e] at hw ⊢
  simp at hw
  subst hw
  simp [h0, hwo]
 exfalso
 have : (⟨1, 1⟩ : BS) ∈ BU p x.elem x.fin := by rw [e]; simp
 exact k2 ((Kh this).2.2.2.2.2 (by simp)).1
theorem SI (hv : CD p) (x : AF) (met : List AF) (l : List Int) (hl : l.length <= 10) (q : List AF) (hq : q.length <= 1000) : AQ (E9 p x met l) (0, q) = some (.inl (met, q ++ G8 p x.elem l)) := by
 have hj : p.joins.length < 1000000 := by have := hv.nj; omega
 unfold G8
 exact H5 1000 (l := l) (fun o => match Aw p ⟨x.elem, o⟩ with | some y => [y] | none => []) (fun o => by split <;> simp) (by omega) (step := E9 p x met l) (fin := fun o => (Sum.inl (met, o) : (List AF × List AF) ⊕ Bool)) (fun o => by simp only [E9, Bu, cond_false]) (fun i a o ha hb => by
  have := BW ha
  simp only [E9, BF ha, cond_true, Ai, ha, Option.bind_some, Bh p hj, Ab (show i < 1000000000 by omega)]
  cases Aw p ⟨x.elem, a⟩ with
  | none => simp
  | some y => simp [A2 (show o.length + [y].length <= 4294967296 by simp; omega)]) q hq
theorem XB (hv : CD p) (h1 : r.steps.length <= 12) (h2 : r.zone.length <= 1000) (h3 : r.holds.length <= 1000) {nl : List AJ} (hl : nl.length <= 3000) (hc : HV nl) (hp : ∀ m ∈ nl, m.pos = 1 \/ m.pos = 2) {x : AF} (hx : Cg p x = true) (q : List AF) (hq : q.length <= 1000) (met : List AF) (hm : met.length <= 1000) :
  DB p r nl (met, x :: q) = some (if x ∈ met \/ x.elem ∈ r.steps.map (·.elem) then .inl (met, q) else if Du p r.holds x then .inl (met ++ [x], q) else if Dv p (CQ nl) r.zone x then .inl (met ++ [x], q ++ G8 p x.elem (Ch p (CQ nl) x)) else .inr false) := by
 have hs : p.signals.length < 1000000 := by have := hv.few.signals; omega
 have d : decide ((0 : Int) < (((x :: q).length : Nat) : Int)) = true := by simp
 have e0 : Ak (x :: q) 0 = some x := rfl
 have eb : (bif decide (x ∈ met) then some true else (GP r x.elem).bind fun y => some y : Option Bool) = some (decide (x ∈ met \/ x.elem ∈ r.steps.map (·.elem))) := by
  rw [SD r (show r.steps.length < 1000000 by omega)]
  by_cases c : x ∈ met
  .rw [decide_eq_true c, decide_eq_true (Or.inl c)]; rfl
  rw [decide_eq_false c]
  by_cases c2 : x.elem ∈ r.steps.map (·.elem)
  .rw [decide_eq_true c2, decide_eq_true (Or.inr c2)]; rfl
  rw [decide_eq_false c2, decide_eq_false (fun h => h.elim c c2)]; rfl
 have es : (bif decide (0 <= Ay p x) then bif !p.hard then (C4 r.holds (Ay p x)).bind fun y => some y else some false else some false : Option Bool) = some (decide (Du p r.holds x)) := by
  unfold Du
  rw [K8 r.holds (show r.holds.length < 1000000 by omega)]
  by_cases c : 0 <= Ay p x
  .by_cases hh : p.hard = true
   .simp [hh, c]
   have hf : p.hard = false := by simpa using hh
   simp [hf, c]
  simp [c]
 unfold DB
 simp only [d, cond_true, e0, Ur, Option.bind_some, RX met (show met.length < 1000000 by omega)]
 rw [eb]
 simp only [Option.bind_some]
 by_cases c : x ∈ met \/ x.elem ∈ r.steps.map (·.elem)
 .rw [if_pos c, decide_eq_true c]; rfl
 rw [if_neg c, decide_eq_false c]
 simp only [cond_false, A2 (show met.length + [x].length <= 4294967296 by simp; omega), Option.bind_some, DY p hs]
 rw [es]
 simp only [Option.bind_some]
 by_cases c2 : Du p r.holds x
 .rw [if_pos c2, decide_eq_true c2]; rfl
 rw [if_neg c2, decide_eq_false c2]
 simp only [cond_false, Ev, Option.bind_some, Jg nl (show nl.length < 1000000 by omega), K8 r.zone (show r.zone.length < 1000000 by omega), RY]
 have i0 : Ak ([0] : List Int) 0 = some 0 := rfl
 have s0 : ∀ o : Int, A9 ([0] : List Int) 0 o = [o] := fun o => rfl
 by_cases k4 : Ah p x.elem = 4
 .have : ¬ Dv p (CQ nl) r.zone x := fun h => h.1 k4
  rw [if_neg this, k4]; rfl
 have b4 : (Ah p x.elem == 4) = false := beq_eq_false_iff_ne.2 k4
 by_cases k2 : Ah p x.elem = 2
 .have b2 : (Ah p x.elem == 2) = true := by simp [k2]
  have b2' : (Ah p x.elem != 2) = false := by simp [k2]
  by_cases f : 0 < x.fin
  .have hb := Xy hc hp hx k2 f
   have f0 : (x.fin == 0) = false := by simp; omega
   simp only [b2, b2', b4, f, f0, decide_true, cond_true, cond_false, Option.bind_some]
   by_cases hm2 : (⟨x.elem, AR (3 - x.fin)⟩ : AJ) ∈ nl
   .rw [if_pos hm2] at hb
    have hg : Dv p (CQ nl) r.zone x := ⟨k4, fun h => absurd hb h⟩
    rw [if_pos hg, decide_eq_true hm2, hb]
    simp [G8]
   rw [if_neg hm2] at hb
   rw [decide_eq_false hm2]
   simp only [cond_false]
   by_cases hz : x.elem ∈ r.zone
   .have hg : Dv p (CQ nl) r.zone x := ⟨k4, fun _ => hz⟩
    rw [if_pos hg, decide_eq_true hz, hb]
    simp only [Bool.not_true, cond_false]
    exact SI hv x _ [0] (by simp) q hq
   have hg : ¬ Dv p (CQ nl) r.zone x := fun h => hz (h.2 (by rw [hb]; simp))
   rw [if_neg hg, decide_eq_false hz]; rfl
  obtain ⟨f1, f2, f3⟩ := Do hx
  have f0 : x.fin = 0 := by omega
  obtain ⟨hb, hne⟩ := Xz hc hp hx k2 f0
  have f0' : (x.fin == 0) = true := by simp [f0]
  simp only [b2, b2', b4, f, f0', decide_false, cond_true, cond_false, Option.bind_some]
  by_cases hz : x.elem ∈ r.zone
  .have hg : Dv p (CQ nl) r.zone x := ⟨k4, fun _ => hz⟩
   rw [if_pos hg, decide_eq_true hz, hb]
   simp only [Bool.not_true, cond_false]
   rw [Zi nl (by omega) x]
   simp only [Option.bind_some]
   refine SI hv x _ _ ?_ q hq
   simp only [List.length_append]
   split <;> split <;> simp
  have hg : ¬ Dv p (CQ nl) r.zone x := fun h => hz (h.2 hne)
  rw [if_neg hg, decide_eq_false hz]; rfl
 have b2 : (Ah p x.elem == 2) = false := beq_eq_false_iff_ne.2 k2
 have b2' : (Ah p x.elem != 2) = true := by simp [k2]
 obtain ⟨o, ho, hb⟩ := XA (lay := CQ nl) hx k2 k4
 simp only [b2, b2', b4, cond_true, cond_false, Option.bind_some, ho, i0, Option.getD_some, s0]
 by_cases hz : x.elem ∈ r.zone
 .have hg : Dv p (CQ nl) r.zone x := ⟨k4, fun _ => hz⟩
  rw [if_pos hg, decide_eq_true hz, hb]
  simp only [Bool.not_true, cond_false]
  exact SI hv x _ [o] (by simp) q hq
 have hg : ¬ Dv p (CQ nl) r.zone x := fun h => hz (h.2 (by rw [hb]; simp))
 rw [if_neg hg, decide_eq_false hz]; rfl
end
end Go.E
/- Plain Lean: whether a road is guarded, by the program and by the document (law ProofGuards); what is guarded keeps (law ProofKeeps). No condition. -/
namespace Go.E
open Go
section
variable {p : AN} {n : BL} {r : AO}
def ZC (p : AN) (met : List AF) : Nat := ((Bj p).filter fun x => !decide (x ∈ met)).length
theorem AAK {met : List AF} {x : AF} (hx : x ∈ Bj p) (hm : x ∉ met) : ZC p (met ++ [x]) + 1 <= ZC p met := by
 refine (KN (P := fun y => !decide (y ∈ met)) (P' := fun y => !decide (y ∈ met ++ [x])) (fun z hz => ?_) (Bj p)).2 x hx (by simp [hm]) (by simp)
 simp only [Bool.not_eq_true', decide_eq_false_iff_not, List.mem_append, not_or] at hz ⊢
 exact hz.1
theorem Vc (hv : CD p) (h1 : r.steps.length <= 12) (h2 : r.zone.length <= 1000) (h3 : r.holds.length <= 1000) {nl : List AJ} (hl : nl.length <= 3000) (hc : HV nl) (hp : ∀ m ∈ nl, m.pos = 1 \/ m.pos = 2) :
  ∃ b, AQ (DB p r nl) ([], CO p (CN p r.steps)) = some b /\ (b = true ↔ MH p (CQ nl) r.holds r.zone r.steps) := by
 have hj := hv.nj
 have hpl := FV (p := p) r.steps
 have h4 : (Bj p).length = 2 * p.joins.length := Ea _
 refine ED (step := DB p r nl) (Post := fun b => b = true ↔ MH p (CQ nl) r.holds r.zone r.steps)
  (fun k s => GI p (CQ nl) r.holds r.zone r.steps (fun y => y ∈ s.1 \/ y.elem ∈ r.steps.map (·.elem)) s.2 /\ k + s.2.length + 3 * ZC p s.1 <= 700 /\ s.1.length <= k) 700 ?_ ?_
 .rintro k ⟨met, q⟩ ⟨hi, hms, hmet⟩
  dsimp only at hi hms hmet
  cases q with
  | nil => exact .inl ⟨true, by simp [DB], fun _ => hi.done, fun _ => rfl⟩
  | cons x q =>
   simp only [List.length_cons] at hms
   have hx := (hi.arr x (by simp)).in_ports
   have hhas : Cg p x = true := by
    obtain ⟨i, hi⟩ := List.mem_iff_getElem?.1 hx
    exact hv.join.has i x hi
   rw [XB hv h1 h2 h3 hl hc hp hhas q (by omega) met (by omega)]
   by_cases c : x ∈ met \/ x.elem ∈ r.steps.map (·.elem)
   .rw [if_pos c]
    refine .inr ⟨by omega, _, rfl, hi.next (fun _ h => h) c (fun _ h => .inl h) (fun _ h => h) (fun y hy => hi.arr y (by simp [hy])) fun q => absurd c q, by dsimp only; omega, by dsimp only; omega⟩
   rw [if_neg c]
   have c1 : x.elem ∉ r.steps.map (·.elem) := fun h => c (.inr h)
   have c3 : x ∉ met := fun h => c (.inl h)
   have hlt := AAK hx c3
   have hV : ∀ y, (y ∈ met ++ [x] \/ y.elem ∈ r.steps.map (·.elem)) ↔ (y ∈ met \/ y.elem ∈ r.steps.map (·.elem)) \/ y = x := fun y => by
    simp only [List.mem_append, List.mem_cons, List.not_mem_nil, or_false]
    constructor
    .rintro ((h | h) | h)
     .exact .inl (.inl h)
     .exact .inr h
     exact .inl (.inr h)
    rintro ((h | h) | h)
    .exact .inl (.inl h)
    .exact .inr h
    exact .inl (.inr h)
   by_cases cs : Du p r.holds x
   .rw [if_pos cs]
    refine .inr ⟨by omega, _, rfl, hi.next (fun y hy => (hV y).2 (.inl hy)) ((hV x).2 (.inr rfl)) (fun y hy => (hV y).1 hy) (fun _ h => h) (fun y hy => hi.arr y (by simp [hy])) fun _ _ h => absurd cs h, by dsimp only; omega, by simp only [List.length_append, List.length_cons, List.length_nil]; omega⟩
   rw [if_neg cs]
   by_cases hg : Dv p (CQ nl) r.zone x
   .rw [if_pos hg]
    have hb := N1 p (CQ nl) x
    have hnl := Rb (p := p) x.elem (Ch p (CQ nl) x)
    exact .inr ⟨by omega, _, rfl, hi.go c1 cs hg hV, by simp only [List.length_append]; omega, by simp only [List.length_append, List.length_cons, List.length_nil]; omega⟩
   rw [if_neg hg]
   exact .inl ⟨false, rfl, fun h => (by cases h), fun h => absurd h (hi.bad c1 cs hg)⟩
 refine ⟨⟨fun y hy => ?_, fun x hx h1 h2 => ?_, fun x y hx hy => .inl (S7 hx hy)⟩, ?_, Nat.zero_le _⟩
 .obtain ⟨x, hx, hy⟩ := Py r.steps y hy
  exact .init hx hy
 .rcases hx with h | h
  .cases h
  exact absurd h h1
 have h3 : ZC p [] <= (Bj p).length := List.length_filter_le _ _
 simp only [CO, List.length_map]
 omega
theorem Zj (hv : CD p) (h1 : r.steps.length <= 12) (nl : List AJ) : Gk p r nl = AQ (DB p r nl) ([], CO p (CN p r.steps)) := by
 have hj : p.joins.length < 1000000 := by have := hv.nj; omega
 have hp := FV (p := p) r.steps
 unfold Gk
 rw [S1 hv r (by omega)]
 exact Rd (L := CN p r.steps) (by omega) (fin := fun q => AQ (DB p r nl) ([], q)) (fun q => by simp only [Ip, Bu, cond_false]) (fun i x q hx hq => by
  have := BW hx
  simp only [Ip, BF hx, cond_true, Ai, hx, Option.bind_some, Bh p hj, A2 (show q.length + [(Aw p x).getD (⟨0, 0⟩ : AF)].length <= 4294967296 by simp; omega), Ab (show i < 1000000000 by omega)])
theorem TA (hv : CD p) (e : Int) : Ah p e = 0 ↔ ¬ (0 <= e /\ e < (p.elems.length : Int)) := by
 constructor
 .intro h hr
  obtain ⟨a, ha⟩ := Jc hr.1 hr.2
  have hk : Ah p e = a.kind := by unfold Ah; rw [ha]; rfl
  obtain ⟨h1, _⟩ := Uv ha
  have := (hv.args.elem _ a h1).ends
  rw [<- hk, h] at this
  exact this rfl
 intro h
 unfold Ah
 rw [EK (by omega)]
 rfl
theorem Yv (m : AJ) : (bif Ah p m.elem != 2 then some true else bif m.pos != 1 then some (m.pos != 2) else some false : Option Bool) = some (!decide (Km p m)) := by
 unfold Km
 by_cases c2 : Ah p m.elem = 2
 .have b2 : (Ah p m.elem != 2) = false := by simp [c2]
  rw [b2]
  by_cases c3 : m.pos = 1
  .simp [c2, c3]
  have b3 : (m.pos != 1) = true := bne_iff_ne.2 c3
  rw [b3]
  by_cases c4 : m.pos = 2
  .simp [c2, c3, c4]
  have b4 : (m.pos != 2) = true := bne_iff_ne.2 c4
  rw [b4]
  simp [c2, c3, c4]
 have b2 : (Ah p m.elem != 2) = true := bne_iff_ne.2 c2
 rw [b2]
 simp [c2]
theorem SJ (hv : CD p) (h1 : r.steps.length <= 12) (h2 : r.needs.length <= 1000) (h3 : r.guards.length <= 1000) (h4 : r.zone.length <= 1000) (h5 : r.holds.length <= 1000) (hnp : ∀ m ∈ r.needs, m.pos = 1 \/ m.pos = 2) : ∃ b, G2 p r = some b /\ (b = true ↔ PG p r) := by
 unfold G2
 have hL : (r.needs ++ r.guards).length < 1000000 := by simp; omega
 simp only [AAJ r h2 h3, Option.bind_some, W9 _ _ hL hL]
 cases hx : NA (r.needs ++ r.guards) (r.needs ++ r.guards) with
 | true =>
  refine ⟨false, rfl, fun h => (by cases h), fun h => ?_⟩
  have := PH.2 h.cons
  rw [hx] at this
  cases this
 | false =>
  have hc := PH.1 hx
  simp only [cond_false]
  have l3 : AQ (Dj p r (r.needs ++ r.guards)) 0 = if r.holds.any (fun s => !decide (0 <= s /\ s < (p.signals.length : Int))) = true then some false else Gk p r (r.needs ++ r.guards) := by
   refine Ff (l := r.holds) _ false _ ?_ fun i s hs => ?_
   .simp only [Dj, Bu, cond_false]
    cases Gk p r (r.needs ++ r.guards) <;> rfl
   have := BW hs
   simp only [Dj, BF hs, cond_true, Ai, hs, Option.bind_some, Tg, Ab (show i < 1000000000 by omega)]
   by_cases c : 0 <= s /\ s < (p.signals.length : Int)
   .obtain ⟨a, ha⟩ := Jc c.1 c.2
    rw [ha, decide_eq_true c]; rfl
   rw [EK (by omega), decide_eq_false c]; rfl
  have l2 : AQ (Dk p r (r.needs ++ r.guards)) 0 = if r.zone.any (fun e => !decide (0 <= e /\ e < (p.elems.length : Int) /\ e ∉ r.steps.map (·.elem))) = true then some false else AQ (Dj p r (r.needs ++ r.guards)) 0 := by
   refine Ff (l := r.zone) _ false _ ?_ fun i e he => ?_
   .simp only [Dk, Bu, cond_false]
   have := BW he
   simp only [Dk, BF he, cond_true, Ai, he, Option.bind_some, Ev, SD r (show r.steps.length < 1000000 by omega), Ab (show i < 1000000000 by omega)]
   by_cases c1 : 0 <= e /\ e < (p.elems.length : Int)
   .have hk : (Ah p e == 0) = false := beq_eq_false_iff_ne.2 fun h => (TA hv e).1 h c1
    rw [hk]
    by_cases c4 : e ∈ r.steps.map (·.elem)
    .have c3 : ¬ (0 <= e /\ e < (p.elems.length : Int) /\ e ∉ r.steps.map (·.elem)) := fun h => h.2.2 c4
     rw [decide_eq_true c4, decide_eq_false c3]; rfl
    have c3 : (0 <= e /\ e < (p.elems.length : Int) /\ e ∉ r.steps.map (·.elem)) := ⟨c1.1, c1.2, c4⟩
    rw [decide_eq_false c4, decide_eq_true c3]; rfl
   have hk : (Ah p e == 0) = true := by simp [(TA hv e).2 c1]
   have c3 : ¬ (0 <= e /\ e < (p.elems.length : Int) /\ e ∉ r.steps.map (·.elem)) := fun h => c1 ⟨h.1, h.2.1⟩
   rw [hk, decide_eq_false c3]; rfl
  have l1 : AQ (Er p r (r.needs ++ r.guards)) 0 = if r.guards.any (fun m => !decide (Km p m)) = true then some false else AQ (Dk p r (r.needs ++ r.guards)) 0 := by
   refine Ff (l := r.guards) _ false _ ?_ fun i m hm => ?_
   .simp only [Er, Bu, cond_false]
   have := BW hm
   simp only [Er, BF hm, cond_true, Ai, hm, Option.bind_some, Ev, Ab (show i < 1000000000 by omega)]
   rw [Yv]
   simp only [Option.bind_some]
   cases h : decide (Km p m) <;> rfl
  rw [l1]
  by_cases c0 : r.guards.any (fun m => !decide (Km p m)) = true
  .rw [if_pos c0]
   refine ⟨false, rfl, fun h => (by cases h), fun h => ?_⟩
   obtain ⟨m, hm, hb⟩ := List.any_eq_true.1 c0
   have := h.guard m hm
   simp only [Bool.not_eq_true', decide_eq_false_iff_not] at hb
   exact absurd this hb
  rw [if_neg c0, l2]
  have hg : ∀ m ∈ r.guards, Km p m := fun m hm => Decidable.byContradiction fun hb => c0 (List.any_eq_true.2 ⟨m, hm, by simp only [Bool.not_eq_true', decide_eq_false_iff_not]; exact hb⟩)
  by_cases c1 : r.zone.any (fun e => !decide (0 <= e /\ e < (p.elems.length : Int) /\ e ∉ r.steps.map (·.elem))) = true
  .rw [if_pos c1]
   refine ⟨false, rfl, fun h => (by cases h), fun h => ?_⟩
   obtain ⟨e, he, hb⟩ := List.any_eq_true.1 c1
   have := h.zone e he
   simp only [Bool.not_eq_true', decide_eq_false_iff_not] at hb
   exact absurd this hb
  rw [if_neg c1, l3]
  by_cases c2 : r.holds.any (fun s => !decide (0 <= s /\ s < (p.signals.length : Int))) = true
  .rw [if_pos c2]
   refine ⟨false, rfl, fun h => (by cases h), fun h => ?_⟩
   obtain ⟨e, he, hb⟩ := List.any_eq_true.1 c2
   have := h.hold e he
   simp only [Bool.not_eq_true', decide_eq_false_iff_not] at hb
   exact absurd this hb
  rw [if_neg c2]
  obtain ⟨b, e1, e2⟩ := Vc hv h1 h4 h5 (nl := r.needs ++ r.guards) (by simp; omega) hc (fun m hm => by
   rcases List.mem_append.1 hm with hm | hm
   .exact hnp m hm
   exact (hg m hm).2)
  refine ⟨b, by rw [Zj hv h1, e1], fun h => ⟨hc, hg, fun e he => ?_, fun s hs => ?_, e2.1 h⟩, fun h => e2.2 h.kept⟩
  .exact Decidable.byContradiction fun hb => c1 (List.any_eq_true.2 ⟨e, he, by simp only [Bool.not_eq_true', decide_eq_false_iff_not]; exact hb⟩)
  exact Decidable.byContradiction fun hb => c2 (List.any_eq_true.2 ⟨s, hs, by simp only [Bool.not_eq_true', decide_eq_false_iff_not]; exact hb⟩)
structure AAn (r q : AO) : Prop where
 frm : q.frm = r.frm
 to : q.to = r.to
 fin : q.fin = r.fin
 steps : q.steps = r.steps
 needs : q.needs = r.needs
 guards : q.guards.length <= r.guards.length + 1
 zone : q.zone.length <= r.zone.length + 1
 holds : q.holds.length <= r.holds.length + 1
theorem Uw (r : AO) {w k v : Int} (hw : HK w 2 = some 1) (hg : r.guards.length <= 10000) (hz : r.zone.length <= 10000) (hh : r.holds.length <= 10000) : ∃ q, Es r w k v = some q /\ AAn r q := by
 unfold Es
 have d0 : Oh w 2 = some (IntKind.wrap .u8 (w.tdiv 2)) := by unfold Oh; rw [if_neg (by decide)]
 have d1 : HK (IntKind.wrap .u8 (w.tdiv 2)) 7 = some ((IntKind.wrap .u8 (w.tdiv 2)).tmod 7) := by unfold HK; rw [if_neg (by decide)]
 have a1 := A2 (show ([] : List Int).length + r.zone.length <= 4294967296 by simp; omega)
 have a2 := A2 (show r.zone.length + [v].length <= 4294967296 by simp; omega)
 have a3 := A2 (show ([] : List Int).length + r.holds.length <= 4294967296 by simp; omega)
 have a4 := A2 (show r.holds.length + [v].length <= 4294967296 by simp; omega)
 have a5 := A2 (show ([] : List AJ).length + r.guards.length <= 4294967296 by simp; omega)
 have a6 := A2 (show r.guards.length + [(⟨AR k, v⟩ : AJ)].length <= 4294967296 by simp; omega)
 simp only [hw, Option.bind_some, show ((1 : Int) == 0) = false from rfl, cond_false, d0, d1, a1, a2, a3, a4, a5, a6, List.nil_append]
 simp only [CZ]
 generalize (IntKind.wrap .u8 (w.tdiv 2)).tmod 7 = y
 repeat' split
 all_goals try simp only [Option.bind_some]
 all_goals refine ⟨_, rfl, ?_⟩
 all_goals constructor <;> first | rfl | (simp only [List.length_append, List.length_cons, List.length_nil]; omega)
theorem PI {r : AO} (h : JA p r = true) : (∀ m ∈ r.needs, m.elem ∈ r.steps.map (·.elem) /\ Ah p m.elem = 2 /\ (m.pos = 1 \/ m.pos = 2)) /\ r.needs.Pairwise (fun a b => a.elem ≠ b.elem) /\ r.steps.length <= 12 := by
 obtain ⟨sg, nd, l, h1, h2, h3, h4, h5, h6, h7⟩ := O8 h
 have := O7 (by simp) (by simp) h4
 rw [h7]
 exact ⟨fun m hm => by simpa using this.1 m hm, this.2.1, h3⟩
end
end Go.E
/- Plain Lean: what is wrong first with a chart of a valid plan: the program's answer and the document's are one (Lu). No condition. -/
namespace Go.E
open Go
def Cu {α : Type} (bad : Nat -> α -> Bool) : Nat -> List α -> Option Nat
 | _, [] => none
 | i, a :: r => if bad i a = true then some i else Cu bad (i + 1) r
def Ji {β : Type} (o : Option Nat) (x : Nat -> β) (fin : Option β) : Option β := match o with
 | some i => some (x i)
 | none => fin
theorem Dw {α β : Type} {l : List α} {step : Int -> Option (Int ⊕ β)} (bad : Nat -> α -> Bool) (x : Nat -> β) (fin : Option β) (h0 : step (l.length : Int) = fin.map .inr)
  (h1 : ∀ (i : Nat) a, l[i]? = some a -> step (i : Int) = if bad i a = true then some (.inr (x i)) else some (.inl ((i + 1 : Nat) : Int))) : AQ step 0 = Ji (Cu bad 0 l) x fin := by
 refine H2 (γ := Unit) l (fun i _ => (i : Int)) (fun i _ r => Ji (Cu bad i r) x fin) (fun _ => ?_) (fun i c a r ha hi => ?_) ()
 .simpa [Cu, Ji] using h0
 rw [h1 i a ha]
 by_cases c : bad i a = true
 .left; rw [if_pos c]; unfold Cu; rw [if_pos c]; rfl
 right; rw [if_neg c]; exact ⟨(), rfl, by show Ji (Cu bad i (a :: r)) x fin = _; rw [Cu, if_neg c]⟩
theorem Mh {α : Type} {bad : Nat -> α -> Bool} : ∀ (l : List α) (i : Nat), Cu bad i l = none ↔ ∀ (k : Nat) a, l[k]? = some a -> bad (i + k) a = false
 | [], _ => by simp [Cu]
 | a :: r, i => by
  unfold Cu
  by_cases c : bad i a = true
  .rw [if_pos c]
   constructor
   .intro h; cases h
   intro h
   have := h 0 a rfl
   rw [Nat.add_zero, c] at this
   cases this
  rw [if_neg c, Mh r (i + 1)]
  constructor
  .intro h k b hb
   cases k with
   | zero => simp at hb; subst hb; simpa using c
   | succ k =>
    have := h k b (by simpa using hb)
    rw [show i + (k + 1) = i + 1 + k by omega]; exact this
  intro h k b hb
  have := h (k + 1) b (by simpa using hb)
  rw [show i + 1 + k = i + (k + 1) by omega]; exact this
def EX (l : List AO) (st : List AT) : Bool := l.any fun x => decide (x.steps = st)
theorem Ux {l : List AO} {st : List AT} : EX l st = true ↔ ∃ x ∈ l, x.steps = st := by
 unfold EX; simp only [List.any_eq_true, decide_eq_true_eq]
def N3 (p : AN) (l : List AO) (s : Nat) : Bool := (Ey p (s : Int)).any fun r => !EX l r.steps
noncomputable def Jj (p : AN) (r : AO) : Bool := @decide (PG p r) (Classical.propDecidable _)
theorem Re {p : AN} {r : AO} : Jj p r = true ↔ PG p r := by unfold Jj; exact @decide_eq_true_iff _ (Classical.propDecidable _)
noncomputable def Uy (n : BL) (r : AO) : Bool := ((C8 n r).map (·.bare)).getD false
noncomputable def Lu (p : AN) (n : BL) (l : List AO) : Option (Int × Int) :=
 if 64 < l.length then some (2, -1) else
 Ji (Cu (fun _ r => !JA p r) 0 l) (fun i => (3, (i : Int))) <|
 Ji (Cu (fun i r => EX (l.take i) r.steps) 0 l) (fun i => (4, (i : Int))) <|
 Ji (Cu (fun s (_ : BB) => N3 p l s) 0 p.signals) (fun s => (5, (s : Int))) <|
 Ji (Cu (fun _ r => !r.bare && !Jj p r) 0 l) (fun i => (6, (i : Int))) <|
 Ji (Cu (fun _ r => r.bare != Uy n r) 0 l) (fun i => (7, (i : Int))) <| some (0, -1)
structure Rf (r : AO) : Prop where
 needs : r.needs.length <= 1000
 guards : r.guards.length <= 1000
 zone : r.zone.length <= 1000
 holds : r.holds.length <= 1000
section
variable {p : AN} {n : BL}
theorem TB (hv : CD p) {a b : AO} (ha : JA p a = true) (hb : JA p b = true) (h : a.steps = b.steps) : a.frm = b.frm := by
 obtain ⟨s1, n1, l1, a1, a2, a3, a4, a5, a6, a7⟩ := O8 ha
 obtain ⟨s2, n2, l2, b1, b2, b3, b4, b5, b6, b7⟩ := O8 hb
 have key : ∀ (sg : BB) (st : List AT) (nd : List AJ), 1 <= st.length -> Bq p sg.at_.elem (Aw p sg.at_) [] [] st = some nd -> ∃ q, st.head? = some q /\ Aw p sg.at_ = some ⟨q.elem, q.in_⟩ := fun sg st nd hl hs => by
  cases st with
  | nil => simp at hl
  | cons q r =>
   cases hx : Aw p sg.at_ with
   | none => rw [hx] at hs; simp [Bq] at hs
   | some x =>
    rw [hx] at hs
    unfold Bq at hs
    split at hs
    .cases hs
    rename_i c
    have e1 : q.elem = x.elem := Decidable.byContradiction fun h => c (.inl h)
    have e2 : q.in_ = x.fin := Decidable.byContradiction fun h => c (.inr (.inl h))
    exact ⟨q, rfl, by rw [e1, e2]⟩
 obtain ⟨q1, c1, c2⟩ := key s1 a.steps n1 a2 a4
 obtain ⟨q2, d1, d2⟩ := key s2 b.steps n2 b2 b4
 rw [h] at c1
 rw [c1] at d1
 cases d1
 have e1 := S3 hv.join c2
 have e2 := S3 hv.join d2
 rw [e1] at e2
 have e3 : s1.at_ = s2.at_ := by injection e2
 obtain ⟨f1, f2⟩ := Uv a1
 obtain ⟨g1, g2⟩ := Uv b1
 have r1 := hv.sig.reads _ _ f1
 have r2 := hv.sig.reads _ _ g1
 rw [e3, r2] at r1
 rw [f2, g2]; omega
theorem TC (r : AO) (hr : r.steps.length <= 1000) (l : List AO) (hl : l.length < 1000000) (hb : ∀ x ∈ l, x.steps.length <= 1000) {step : Int -> Option (Int ⊕ Int)} (h0 : step (l.length : Int) = some (.inr (-1)))
  (h1 : ∀ (i : Nat) x, l[i]? = some x -> step (i : Int) = bif decide (x.steps = r.steps) then some (.inr (i : Int)) else some (.inl ((i + 1 : Nat) : Int))) : ∃ t, AQ step 0 = some t /\ decide (0 <= t) = EX l r.steps := by
 obtain ⟨t, e1, e2⟩ := II (l := l) (f := fun x => decide (x.steps = r.steps)) hl h0 (fun i a ha => by
  rw [h1 i a ha]
  cases decide (a.steps = r.steps) <;> rfl)
 refine ⟨t, e1, ?_⟩
 rcases e2 with ⟨rfl, e2⟩ | ⟨a, e0, e2, e3⟩
 .have : EX l r.steps = false := by
   rw [<- Bool.not_eq_true, Ux]
   rintro ⟨x, hx, he⟩
   have := List.find?_eq_none.1 e2 x hx
   simp [he] at this
  rw [this]; rfl
 have : EX l r.steps = true := Ux.2 ⟨a, List.mem_of_find?_eq_some e2, by simpa using List.find?_some e2⟩
 rw [this]
 exact decide_eq_true e0
theorem Yw (l : List AO) (r : AO) (hr : r.steps.length <= 1000) (hl : l.length <= 1000) (hb : ∀ x ∈ l, x.steps.length <= 1000) : ∃ t, AQ (Ej l r) 0 = some t /\ decide (0 <= t) = EX l r.steps :=
 TC r hr l (by omega) hb (by simp only [Ej, Bu, cond_false]) (fun i x hx => by
  have := BW hx
  have hxl := hb x (List.mem_of_getElem? hx)
  simp only [Ej, BF hx, cond_true, Ai, hx, Option.bind_some, HQ, E5, V1 x.steps r.steps (show x.steps.length < 1000000 by omega), Ab (show i < 1000000000 by omega)])
theorem Yx (hn : B0 p n) (hs : p.signals.length <= 1000) (l : List AO) (hl : l.length <= 1000) (hb : ∀ x ∈ l, x.steps.length <= 1000) : E6 n l = Ji (Cu (fun s (_ : BB) => N3 p l s) 0 p.signals) (fun s => (s : Int)) (some (-1)) := by
 unfold E6
 have e8 : CW n = some (p.signals.length : Int) := by unfold CW; rw [hn.plan]
 simp only [e8, Option.bind_some]
 refine Dw (l := p.signals) _ _ _ (by simp only [Gi, Bu, cond_false]; rfl) fun s sg hsg => ?_
 have hi := BW hsg
 have hol : (Ey p (s : Int)).length <= 8192 := by have := SC (p := p) (s : Int); exact this
 simp only [Gi, BF hsg, cond_true, Wu hn, Option.bind_some]
 have := Ff (l := Ey p (s : Int)) (step := Ek l (s : Int) (Ey p (s : Int))) (fun r => !EX l r.steps) (.inr (s : Int)) (some (.inl ((s + 1 : Nat) : Int))) (by simp only [Ek, Bu, cond_false, Ab (show s < 1000000000 by omega)]; rfl) (fun i r hr => by
  have := BW hr
  obtain ⟨t, t1, t2⟩ := Yw l r (by have := Kk (List.mem_of_getElem? hr); omega) hl hb
  simp only [Ek, BF hr, cond_true, Ai, hr, Option.bind_some, t1, t2, Ab (show i < 1000000000 by omega)]
  cases EX l r.steps <;> rfl)
 rw [this]
 unfold N3
 cases (Ey p (s : Int)).any fun r => !EX l r.steps <;> rfl
theorem SK (hv : CD p) (hn : Hm p = some (some n, 0)) (hN : B0 p n) (l : List AO) (hl : l.length <= 1000) (hb : ∀ r ∈ l, Rf r) : EI ⟨p, l⟩ = Lu p n l := by
 unfold EI Lu
 simp only [hn, Option.bind_some, T7, bne_self_eq_false, cond_false]
 by_cases c : 64 < l.length
 .rw [if_pos c, decide_eq_true (show (64 : Int) < (l.length : Int) by omega)]; rfl
 rw [if_neg c, decide_eq_false (show ¬ (64 : Int) < (l.length : Int) by omega)]
 simp only [cond_false]
 have l4 := Dw (l := l) (step := En ⟨p, l⟩ n) (fun _ r => !JA p r) (fun i => ((3 : Int), (i : Int))) (AQ (DD ⟨p, l⟩ n) 0) (by simp only [En, Bu, cond_false]) (fun i r hr => by
  have := BW hr
  have hL := hb r (List.mem_of_getElem? hr)
  simp only [En, BF hr, cond_true, Ai, hr, Option.bind_some, Wv hN r hL.needs, Ab (show i < 1000000000 by omega)]
  cases JA p r <;> rfl)
 rw [l4]
 cases hF : Cu (fun _ r => !JA p r) 0 l with
 | some i => rfl
 | none =>
  have hI : ∀ r ∈ l, JA p r = true := fun r hr => by
   obtain ⟨i, hi⟩ := List.mem_iff_getElem?.1 hr
   simpa using (Mh l 0).1 hF i r hi
  have h12 : ∀ r ∈ l, r.steps.length <= 12 := fun r hr => (PI (hI r hr)).2.2
  show AQ (DD ⟨p, l⟩ n) 0 = _
  have l5 := Dw (l := l) (step := DD ⟨p, l⟩ n) (fun i r => EX (l.take i) r.steps) (fun i => ((4 : Int), (i : Int))) ((E6 n l).bind fun y => bif decide (0 <= y) then some (5, y) else AQ (Df ⟨p, l⟩ n) 0) (by simp only [DD, Bu, cond_false]) (fun i r hr => by
   have hi := BW hr
   have hL := h12 r (List.mem_of_getElem? hr)
   obtain ⟨t, t1, t2⟩ := TC r (by omega) (l.take i) (by simp; omega) (fun x hx => by have := h12 x (List.mem_of_mem_take hx); omega) (step := Em r (l.take i)) (by simp only [Em, Bu, cond_false]) (fun k x hx => by
    have hk := BW hx
    have hxl := h12 x (List.mem_of_mem_take (List.mem_of_getElem? hx))
    simp only [List.length_take] at hk
    simp only [Em, BF hx, cond_true, Ai, hx, Option.bind_some, FG, E5, V1 x.steps r.steps (show x.steps.length < 1000000 by omega), Ab (show k < 1000000000 by omega)])
   simp only [DD, BF hr, cond_true, Ai, hr, Option.bind_some, I0 l i (by omega), t1, t2, Ab (show i < 1000000000 by omega)]
   cases EX (l.take i) r.steps <;> rfl)
  rw [l5]
  refine congrArg (Ji (Cu (fun i r => EX (l.take i) r.steps) 0 l) (fun i => ((4 : Int), (i : Int)))) ?_
  rw [Yx hN (by have := hv.ns; omega) l hl (fun x hx => by have := h12 x hx; omega)]
  cases hS : Cu (fun s (_ : BB) => N3 p l s) 0 p.signals with
  | some s =>
   simp only [Ji, Option.bind_some, decide_eq_true (show (0 : Int) <= (s : Int) by omega), cond_true]
  | none =>
   simp only [Ji, Option.bind_some, show decide ((0 : Int) <= -1) = false from rfl, cond_false]
   have l7 := Dw (l := l) (step := Df ⟨p, l⟩ n) (fun _ r => !r.bare && !Jj p r) (fun i => ((6 : Int), (i : Int))) (AQ (De ⟨p, l⟩ n) 0) (by simp only [Df, Bu, cond_false]) (fun i r hr => by
    have hi := BW hr
    have hm := List.mem_of_getElem? hr
    have hL := hb r hm
    obtain ⟨b, b1, b2⟩ := W8 (r := r) hv hN (h12 r hm) hL.needs hL.guards hL.zone hL.holds
    have hbb : b = Jj p r := Bool.eq_iff_iff.2 (b2.trans Re.symm)
    simp only [Df, BF hr, cond_true, Ai, hr, Option.bind_some, b1, hbb, Ab (show i < 1000000000 by omega)]
    cases r.bare <;> cases Jj p r <;> rfl)
   have l8 := Dw (l := l) (step := De ⟨p, l⟩ n) (fun _ r => r.bare != Uy n r) (fun i => ((7 : Int), (i : Int))) (some (0, -1)) (by simp only [De, Bu, cond_false]; rfl) (fun i r hr => by
    have hi := BW hr
    have hm := List.mem_of_getElem? hr
    have hL := hb r hm
    obtain ⟨g, z, h, bb, R2, _⟩ := VZ (r := r) hv hN (h12 r hm) hL.needs
    have hfl : Uy n r = bb := by unfold Uy; rw [R2]; rfl
    simp only [De, BF hr, cond_true, Ai, hr, Option.bind_some, R2, hfl, Ab (show i < 1000000000 by omega)]
    cases r.bare <;> cases bb <;> rfl)
   rw [l7, l8]
   rfl
theorem Uz (hv : CD p) (h0 : DL p = some 0) (hN : B0 p n) (l : List AO) (hl : l.length <= 1000) (hb : ∀ r ∈ l, Rf r) : Ia ⟨p, l⟩ = Lu p n l := by
 unfold Ia Lu
 simp only [h0, Option.bind_some, bne_self_eq_false, cond_false]
 by_cases c : 64 < l.length
 .rw [if_pos c, decide_eq_true (show (64 : Int) < (l.length : Int) by omega)]; rfl
 rw [if_neg c, decide_eq_false (show ¬ (64 : Int) < (l.length : Int) by omega)]
 simp only [cond_false]
 unfold HR
 have l1 := Dw (l := l) (step := D4 ⟨p, l⟩) (fun _ r => !JA p r) (fun i => ((3 : Int), (i : Int))) (AQ (DF ⟨p, l⟩) 0) (by simp only [D4, Bu, cond_false]) (fun i r hr => by
  have := BW hr
  have hL := hb r (List.mem_of_getElem? hr)
  simp only [D4, BF hr, cond_true, Ai, hr, Option.bind_some, Xq hv r hL.needs, Ab (show i < 1000000000 by omega)]
  cases JA p r <;> rfl)
 rw [l1]
 cases hF : Cu (fun _ r => !JA p r) 0 l with
 | some i => rfl
 | none =>
  have hI : ∀ r ∈ l, JA p r = true := fun r hr => by
   obtain ⟨i, hi⟩ := List.mem_iff_getElem?.1 hr
   simpa using (Mh l 0).1 hF i r hi
  have h12 : ∀ r ∈ l, r.steps.length <= 12 := fun r hr => (PI (hI r hr)).2.2
  have l2 := Dw (l := l) (step := DF ⟨p, l⟩) (fun i r => EX (l.take i) r.steps) (fun i => ((4 : Int), (i : Int))) (some (0, -1)) (by simp only [DF, Bu, cond_false]; rfl) (fun i r hr => by
   have hi := BW hr
   have hm := List.mem_of_getElem? hr
   have hlen : ((l.take i).length : Int) = (i : Int) := by rw [List.length_take]; omega
   have inner := Ff (l := l.take i) (step := D3 ⟨p, l⟩ (i : Int)) (fun x => decide (x.steps = r.steps)) (.inr ((4 : Int), (i : Int))) (some (.inl ((i + 1 : Nat) : Int))) (by
     rw [hlen]
     have d : decide ((i : Int) < (i : Int)) = false := decide_eq_false (by omega)
     simp only [D3, d, cond_false, Ab (show i < 1000000000 by omega)]; rfl) (fun k x hx => by
    have hk := BW hx
    rw [List.length_take] at hk
    have hx2 : l[k]? = some x := by rw [List.getElem?_take] at hx; rw [if_pos (by omega)] at hx; exact hx
    have hxm := List.mem_of_getElem? hx2
    have d : decide ((k : Int) < (i : Int)) = true := decide_eq_true (by omega)
    have hrs := h12 r hm
    simp only [D3, d, cond_true, Ai, hx2, hr, Option.bind_some, Ua r.steps x.steps (show r.steps.length < 1000000 by omega), Ab (show k < 1000000000 by omega)]
    by_cases e : x.steps = r.steps
    .have hfrm := TB hv (hI x hxm) (hI r hm) e
     simp [hfrm, e]
    have e' : ¬ r.steps = x.steps := fun h => e h.symm
    cases (r.frm == x.frm) <;> simp [e, e'])
   simp only [DF, BF hr, cond_true]
   rw [inner]
   unfold EX
   cases (l.take i).any fun x => decide (x.steps = r.steps) <;> rfl)
  simp only [Ji]
  rw [l2]
  cases hT : Cu (fun i r => EX (l.take i) r.steps) 0 l with
  | some i => rfl
  | none =>
   simp only [Ji, Option.bind_some, show decide ((0 : Int) < 0) = false from rfl, cond_false]
   have hl3 : IZ ⟨p, l⟩ = Ji (Cu (fun s (_ : BB) => N3 p l s) 0 p.signals) (fun s => (s : Int)) (some (-1)) := by
    unfold IZ
    refine Dw (l := p.signals) _ _ _ (by simp only [IA, Bu, cond_false]; rfl) fun s sg hsg => ?_
    have hi := BW hsg
    have hol : (Ey p (s : Int)).length <= 8192 := SC (p := p) (s : Int)
    have hns := hv.ns
    simp only [IA, BF hsg, cond_true, Wt hv.few, Option.bind_some]
    have := Ff (l := Ey p (s : Int)) (step := F0 ⟨p, l⟩ (s : Int) (Ey p (s : Int))) (fun r => !EX l r.steps) (.inr (s : Int)) (some (.inl ((s + 1 : Nat) : Int))) (by simp only [F0, Bu, cond_false, Ab (show s < 1000000000 by omega)]; rfl) (fun i r hr => by
     have hi2 := BW hr
     have hrm := List.mem_of_getElem? hr
     have hro := Ns hrm
     have hrs := Kk hrm
     have in3 : AQ (Ed ⟨p, l⟩ (s : Int) (Ey p (s : Int)) (i : Int)) (false, 0) = some (bif !EX l r.steps then .inr (.inr (s : Int)) else .inl ((i + 1 : Nat) : Int)) := by
      have := H2 (γ := Bool) l (fun k b => (b, (k : Int))) (fun _ b rest => some (bif !(b || EX rest r.steps) then (Sum.inr (.inr (s : Int)) : Int ⊕ (Int ⊕ Int)) else .inl ((i + 1 : Nat) : Int))) (step := Ed ⟨p, l⟩ (s : Int) (Ey p (s : Int)) (i : Int)) (fun b => by
       simp only [Ed, Bu, cond_false, Ab (show i < 1000000000 by omega), EX, List.any_nil, Bool.or_false]
       cases b <;> rfl) (fun k b x rest hx hk => by
       right
       have hxm := List.mem_of_getElem? hx
       refine ⟨b || decide (x.steps = r.steps), ?_, ?_⟩
       .simp only [Ed, BF hx, cond_true, Ai, hx, hr, Option.bind_some, Ua r.steps x.steps (show r.steps.length < 1000000 by omega), Ab (show k < 1000000000 by omega)]
        cases b with
        | true => rfl
        | false =>
         by_cases e : x.steps = r.steps
         .have hfrm := TB hv (hI x hxm) hro.1 e
          rw [hro.2.1] at hfrm
          simp [hfrm, e]
         have e' : ¬ r.steps = x.steps := fun h => e h.symm
         cases (x.frm == (s : Int)) <;> simp [e, e']
       simp only [EX, List.any_cons, Bool.or_assoc]) false
      simpa using this
     simp only [F0, BF hr, cond_true]
     rw [in3]
     cases EX l r.steps <;> rfl)
    rw [this]
    unfold N3
    cases (Ey p (s : Int)).any fun r => !EX l r.steps <;> rfl
   rw [hl3]
   cases hS : Cu (fun s (_ : BB) => N3 p l s) 0 p.signals with
   | some s => simp only [Ji, Option.bind_some, decide_eq_true (show (0 : Int) <= (s : Int) by omega), cond_true]
   | none =>
    simp only [Ji, Option.bind_some, show decide ((0 : Int) <= -1) = false from rfl, cond_false]
    have l7 := Dw (l := l) (step := F3 ⟨p, l⟩) (fun _ r => !r.bare && !Jj p r) (fun i => ((6 : Int), (i : Int))) (AQ (Ee ⟨p, l⟩) 0) (by simp only [F3, Bu, cond_false]) (fun i r hr => by
     have hi := BW hr
     have hm := List.mem_of_getElem? hr
     have hL := hb r hm
     obtain ⟨b, b1, b2⟩ := SJ (r := r) hv (h12 r hm) hL.needs hL.guards hL.zone hL.holds (fun m hmm => ((PI (hI r hm)).1 m hmm).2.2)
     have hbb : b = Jj p r := Bool.eq_iff_iff.2 (b2.trans Re.symm)
     simp only [F3, BF hr, cond_true, Ai, hr, Option.bind_some, b1, hbb, Ab (show i < 1000000000 by omega)]
     cases r.bare <;> cases Jj p r <;> rfl)
    have l8 := Dw (l := l) (step := Ee ⟨p, l⟩) (fun _ r => r.bare != Uy n r) (fun i => ((7 : Int), (i : Int))) (some (0, -1)) (by simp only [Ee, Bu, cond_false]; rfl) (fun i r hr => by
     have hi := BW hr
     have hm := List.mem_of_getElem? hr
     have hL := hb r hm
     obtain ⟨R, R1, R2⟩ := Us (r := r) hv hN (h12 r hm) hL.needs
     have hfl : Uy n r = R.bare := by unfold Uy; rw [R2]; rfl
     simp only [Ee, BF hr, cond_true, Ai, hr, Option.bind_some, R1, hfl, Ab (show i < 1000000000 by omega)]
     cases r.bare <;> cases R.bare <;> rfl)
    rw [l7, l8]
    rfl
end
end Go.E
/- Plain Lean: the chart of a valid plan with one thing of one road turned (law ProofTurned). No condition. -/
namespace Go.E
open Go
section
variable {p : AN} {n : BL}
theorem XC (h : Hs p = some true) : DL p = some 0 := by
 unfold Hs at h
 cases h1 : Jt p with
 | none => rw [h1] at h; cases h
 | some b =>
  rw [h1] at h
  cases b with
  | false => cases h
  | true =>
   cases h2 : DL p with
   | none => rw [h2] at h; cases h
   | some e =>
    rw [h2] at h
    simp only [Option.bind_some, cond_true, Option.some.injEq, beq_iff_eq] at h
    rw [h]
noncomputable def FY (n : BL) (r : AO) : AO := (C8 n r).getD r
structure V5 (p : AN) (r q : AO) : Prop where
 frm : q.frm = r.frm
 to : q.to = r.to
 fin : q.fin = r.fin
 steps : q.steps = r.steps
 needs : q.needs = r.needs
 zone : S4 p r.steps q.zone
 guards : V4 p r.steps q.guards
 hard : p.hard = true -> q.holds = []
 lg : q.guards.length <= 700
 lh : q.holds.length <= 700
 keep : ∃ vis, KI p r.steps r.needs q.bare vis q.guards q.zone q.holds []
theorem Zk (hv : CD p) (hn : B0 p n) {r : AO} (h1 : r.steps.length <= 12) (h2 : r.needs.length <= 1000) : C8 n r = some (FY n r) /\ V5 p r (FY n r) := by
 obtain ⟨g, z, h, b, e1, e2, e3, e4, e5, e6, e7⟩ := Va hv hn h1 h2
 have hR2 : FY n r = ⟨r.frm, r.to, r.fin, r.steps, r.needs, g, z, h, b⟩ := by unfold FY; rw [e1]; rfl
 refine ⟨by rw [hR2, e1], ?_⟩
 rw [hR2]
 exact ⟨rfl, rfl, rfl, rfl, rfl, e2, e3, e4, e5, e6, e7⟩
theorem Yy (hv : CD p) (hn : B0 p n) {r : AO} (h1 : r.steps.length <= 12) (h2 : r.needs.length <= 1000) : Fc p r = some (FY n r) := by
 obtain ⟨R, R1, R2⟩ := Us hv hn h1 h2
 have hR : FY n r = R := by unfold FY; rw [R2]; rfl
 rw [hR, R1]
theorem AAL {α : Type} (l m : List α) (x y : α) : A9 (l ++ x :: m) (l.length : Int) y = l ++ y :: m := by
 show (l ++ x :: m).set (l.length : Int).toNat y = _
 rw [Int.toNat_natCast]
 simp
theorem X0 {l : List AO} (f : AO -> AO) {β : Type} {step : Int × List AO -> Option ((Int × List AO) ⊕ β)} {fin : List AO -> β} (hl : l.length <= 1000)
  (h0 : ∀ c, c.length = l.length -> step ((l.length : Int), c) = some (.inr (fin c))) (h1 : ∀ (i : Nat) r c, l[i]? = some r -> c[i]? = some r -> c.length = l.length -> step ((i : Int), c) = some (.inl (((i + 1 : Nat) : Int), A9 c (i : Int) (f r)))) : AQ step ((0 : Int), l) = some (fin (l.map f)) := by
 obtain ⟨b, h2, rfl⟩ := CR (l := l) (step := step) (Post := fun b => b = fin (l.map f)) (fun i c => c = (l.take i).map f ++ l.drop i) (c := l)
  (fun c hc => ⟨fin c, h0 c (by rw [hc]; simp), by rw [hc, List.take_length, List.drop_length, List.append_nil]⟩)
  (fun i r c hr hc => by
   have hi := BW hr
   have hd : l.drop i = r :: l.drop (i + 1) := by
    obtain ⟨h, e⟩ := List.getElem?_eq_some_iff.1 hr
    rw [List.drop_eq_getElem_cons h, e]
   have hlen : ((l.take i).map f).length = i := by simp; omega
   have hci : c[i]? = some r := by
    rw [hc, hd, List.getElem?_append_right (by omega), hlen]; simp
   refine .inr ⟨A9 c (i : Int) (f r), h1 i r c hr hci (by rw [hc]; simp; omega), ?_⟩
   have := AAL ((l.take i).map f) (l.drop (i + 1)) r (f r)
   rw [hlen] at this
   rw [hc, hd, this, List.take_add_one, hr]
   simp)
  (by simp)
 exact h2
theorem X1 (hv : CD p) (hn : B0 p n) (h0 : DL p = some 0) : ∃ c e, Ib p = some (c, e) /\ (e = 0 -> (DZ p).2 = 0 /\ c = ⟨p, (DZ p).1.map (FY n)⟩) := by
 unfold Ib
 simp only [h0, Option.bind_some, bne_self_eq_false, cond_false, Ww hv]
 by_cases c : (DZ p).2 = 0
 .have c' : ((DZ p).2 != 0) = false := by simp [c]
  rw [c']
  simp only [cond_false]
  have hl : (DZ p).1.length <= 64 := by
   unfold DZ
   split
   .simp
   simp only; omega
  refine ⟨_, 0, ?_, fun _ => ⟨c, rfl⟩⟩
  exact X0 (l := (DZ p).1) (FY n) (step := F4 p) (fin := fun l => ((⟨p, l⟩ : B2), (0 : Int))) (by omega) (fun q hq => by
   have d : decide (((DZ p).1.length : Int) < (q.length : Int)) = false := decide_eq_false (by omega)
   simp only [F4, d, cond_false]) (fun i r q hr hq hlen => by
   have hi := BW hr
   obtain ⟨s, hs⟩ := Ul (List.mem_of_getElem? hr)
   have hro := Ns hs
   have f2 := Yy hv hn (r := r) (Kk hs) (by have := hro.2.2.2.2.2.2.2.2; omega)
   have d : decide ((i : Int) < (q.length : Int)) = true := decide_eq_true (by omega)
   simp only [F4, d, cond_true, Ai, hq, Option.bind_some, f2, Ab (show i < 1000000000 by omega)])
 have c' : ((DZ p).2 != 0) = true := by simp [c]
 rw [c']
 exact ⟨_, _, rfl, fun h => absurd h c⟩
theorem Rg {r q : AO} {w k v : Int} (h : Fd r w k v = some q) : q.guards = r.guards /\ q.zone = r.zone /\ q.holds = r.holds := by
 unfold Fd at h
 simp only [Option.bind_eq_some_iff] at h
 obtain ⟨_, _, _, _, _, _, t, _, h⟩ := h
 cases h
 exact ⟨rfl, rfl, rfl⟩
theorem QL {r : AO} (h1 : 1 <= r.steps.length) (h2 : r.steps.length <= 12) (h3 : r.needs.length <= 12) (h4 : r.guards.length <= 900) (h5 : r.zone.length <= 900) (h6 : r.holds.length <= 900) {w k v : Int} (hw : 0 <= w) (hk : 0 <= k /\ k <= 255 /\ AR k = k) : ∃ q, Es r w k v = some q /\ Rf q := by
 obtain ⟨m, m1, m2, m3⟩ := Uk hw (show (0 : Int) < 2 by decide)
 by_cases c : m = 0
 .subst c
  unfold Es
  have d0 : Oh w 2 = some (IntKind.wrap .u8 (w.tdiv 2)) := by unfold Oh; rw [if_neg (by decide)]
  obtain ⟨q, q1, q2⟩ := Um h1 h2 h3 (w := IntKind.wrap .u8 (w.tdiv 2)) (v := v) hk
  obtain ⟨q3, q4, q5⟩ := Rg q1
  refine ⟨q, by simp only [m1, Option.bind_some, beq_self_eq_true, cond_true, d0, q1], ⟨by omega, by rw [q3]; omega, by rw [q4]; omega, by rw [q5]; omega⟩⟩
 have : m = 1 := by omega
 subst this
 obtain ⟨q, q1, q2⟩ := Uw r (k := k) (v := v) m1 (by omega) (by omega) (by omega)
 have a := q2.guards; have b := q2.zone; have d := q2.holds
 exact ⟨q, q1, ⟨by rw [q2.needs]; omega, by omega, by omega, by omega⟩⟩
theorem XD (p : AN) (n : BL) (l : List AO) : ∃ t, Lu p n l = some t := by
 unfold Lu Ji
 split
 .exact ⟨_, rfl⟩
 repeat' split
 all_goals exact ⟨_, rfl⟩
theorem QM (p : AN) (i w k v : Int) (ki : (Lit.int .u8 i).wf = true) (kw : (Lit.int .u8 w).wf = true) (kk : (Lit.int .u8 k).wf = true) : Fj p i w k v = some true := by
 unfold Fj
 simp only [ZX, Option.bind_some, Bool.not_true, cond_false]
 obtain ⟨b0, h1, h2⟩ := W1 p
 simp only [h1, Option.bind_some]
 cases b0 with
 | false => rfl
 | true =>
  have hv := h2 rfl
  have hc := XC h1
  obtain ⟨n, hN, hn⟩ := AAB p hv
  obtain ⟨c, e, e1, e2⟩ := X1 hv hn hc
  simp only [Bool.not_true, cond_false, e1, Option.bind_some]
  by_cases c0 : e = 0
  .obtain ⟨e3, rfl⟩ := e2 c0
   subst c0
   have hl : (DZ p).1.length <= 64 := by
    unfold DZ
    split
    .simp
    simp only; omega
   simp only [bne_self_eq_false, cond_false, Option.bind_some, List.length_map]
   by_cases c1 : (DZ p).1.length = 0
   .simp [c1]
   have c1' : (((DZ p).1.length : Int) == 0) = false := by simp only [beq_eq_false_iff_ne]; omega
   simp only [c1', cond_false]
   obtain ⟨u1, u2, u3⟩ := u8w ki
   obtain ⟨j, j1, j2⟩ := Yt (k := (DZ p).1.length) u1 (by omega)
   rw [u3, j2]
   obtain ⟨r, hr⟩ : ∃ r, (DZ p).1[j]? = some r := ⟨_, List.getElem?_eq_getElem j1⟩
   have hr2 : ((DZ p).1.map (FY n))[j]? = some (FY n r) := by rw [List.getElem?_map, hr]; rfl
   have good : ∀ r ∈ (DZ p).1, 1 <= r.steps.length /\ r.steps.length <= 12 /\ r.needs.length <= 12 /\ V5 p r (FY n r) := fun r hr => by
    obtain ⟨s, hs⟩ := Ul hr
    have hro := Ns hs
    have hnd := hro.2.2.2.2.2.2.2.2
    exact ⟨hro.2.2.2.2.2.2.2.1, Kk hs, hnd, (Zk hv hn (Kk hs) (by omega)).2⟩
   obtain ⟨g1, g2, g3, g4⟩ := good r (List.mem_of_getElem? hr)
   have hz := g4.zone.len; have hg := g4.lg; have hh := g4.lh
   obtain ⟨q, q1, q2⟩ := QL (r := FY n r) (w := w) (k := k) (v := v) (by rw [g4.steps]; exact g1) (by rw [g4.steps]; exact g2) (by rw [g4.needs]; exact g3) (by omega) (by omega) (by omega) (u8w kw).1 (u8w kk)
   simp only [Option.bind_some, Ai, hr2, q1]
   have hlen : (A9 ((DZ p).1.map (FY n)) (j : Int) q).length <= 1000 := by rw [BC, List.length_map]; omega
   have hall : ∀ x ∈ A9 ((DZ p).1.map (FY n)) (j : Int) q, Rf x := fun x hx => by
    have hx2 : x ∈ ((DZ p).1.map (FY n)).set (j : Int).toNat q := hx
    rcases List.mem_or_eq_of_mem_set hx2 with hm | rfl
    .obtain ⟨y, hy, rfl⟩ := List.mem_map.1 hm
     obtain ⟨g1, g2, g3, g4⟩ := good y hy
     have hz := g4.zone.len; have hg := g4.lg; have hh := g4.lh
     exact ⟨by rw [g4.needs]; omega, by omega, by omega, by omega⟩
    exact q2
   rw [SK hv hN hn _ hlen hall, Uz hv hc hn _ hlen hall]
   obtain ⟨t, ht⟩ := XD p n (A9 ((DZ p).1.map (FY n)) (j : Int) q)
   rw [ht]
   simp
  have : (e != 0) = true := by simp [c0]
  rw [this]; rfl
end
end Go.E
