/- Plain Lean: the document's search for the flank and the program's loop: one call is as good as one port on the stack. No condition. -/
import Derived.Test.YtilbadmonidmhaaGreatJ5
set_option linter.unusedVariables false
set_option linter.unusedSimpArgs false
namespace Go.E
open Go
section
variable {p : AM} {n : BI} {r : AW}
noncomputable def Nx (m : Nat) : Aq × AF -> Option Aq := Ox (fun (rc : (Aq × AF) -> Option Aq) (a : (Aq × AF)) => CX rc a.1 a.2) m
structure CI (p : AM) (vis : List (AF × Bool)) (g : List AJ) (z h : List Int) (met : List AF) : Prop where
 mt : ∀ y, y ∈ met ↔ Bb vis y = true
 lz : z.length <= 12
 lg : g.length + HU p vis <= 500
 lh : h.length + HU p vis <= 500
 lm : met.length + HU p vis <= 500
theorem S1 {b : Bool} {z : List Int} {e : Int} (h : z.length <= 12) : (BT b z e).2.2.length <= 12 := by
 unfold BT
 split
 .exact h
 split
 .exact h
 simp; omega
theorem CI.mark {vis : List (AF × Bool)} {g g' : List AJ} {z z' h h' : List Int} {met : List AF} {x : AF} (hi : CI p vis g z h met) (hx : x ∈ Bj p) (hv : Bb vis x = false) (hz : z'.length <= 12) (hg : g'.length <= g.length + 1) (hh : h'.length <= h.length + 1) : CI p (BC x true vis) g' z' h' (met ++ [x]) := by
 have hlt := RQ hx hv
 have h1 := hi.lg; have h2 := hi.lh; have h3 := hi.lm
 refine ⟨fun y => ?_, hz, by omega, by omega, by simp; omega⟩
 rw [List.mem_append, hi.mt, Jo]
 simp only [List.mem_singleton]
 exact Or.comm
def Yp (p : AM) (n : BI) (r : AW) (m : Nat) (b : Bool) (vis : List (AF × Bool)) (g : List AJ) (z h : List Int) (met : List AF) (x : AF) : Prop :=
 ∃ b' vis' g' z' h' met', Nx m (GC p r g z h b met, x) = some (GC p r g' z' h' b' met') /\ CI p vis' g' z' h' met' /\ HU p vis' <= HU p vis /\
  ∀ l k, FI p r.steps 700 k vis g z h (l ++ [x]) -> ∃ k', AO (B2 n r r.steps r.needs p) (b, vis, g, z, h, l ++ [x]) = AO (B2 n r r.steps r.needs p) (b', vis', g', z', h', l) /\ FI p r.steps 700 k' vis' g' z' h' l
theorem MM {m : Nat} (ih : ∀ b vis g z h met x, HU p vis < m -> x ∈ Bj p -> CI p vis g z h met -> Yp p n r m b vis g z h met x) {b : Bool} {vis : List (AF × Bool)} {g : List AJ} {z h : List Int} {met : List AF} (y : AF) (hu : HU p vis < m) (hi : CI p vis g z h met) :
  ∃ b' vis' g' z' h' met', RU p (Nx m) (GC p r g z h b met) y = some (GC p r g' z' h' b' met') /\ CI p vis' g' z' h' met' /\ HU p vis' <= HU p vis /\
   ∀ l k, FI p r.steps 700 k vis g z h (GG p l y) -> ∃ k', AO (B2 n r r.steps r.needs p) (b, vis, g, z, h, GG p l y) = AO (B2 n r r.steps r.needs p) (b', vis', g', z', h', l) /\ FI p r.steps 700 k' vis' g' z' h' l := by
 unfold RU GG
 cases hy : As p y with
 | none => exact ⟨b, vis, g, z, h, met, rfl, hi, Nat.le_refl _, fun l k hf => ⟨k, rfl, hf⟩⟩
 | some q => exact ih b vis g z h met q hu (Gk hy) hi
theorem PB {x : AF} (h : CQ p x = true) (k2 : Ah p x.elem ≠ 2) (k4 : Ah p x.elem ≠ 4) : ∃ o, Ba p x.elem x.fin 0 = some o := by
 obtain ⟨f1, f2, f3⟩ := Da h
 have h' : CQ p ⟨x.elem, x.fin⟩ = true := h
 unfold Ba BS
 rw [h']
 simp only [if_true]
 by_cases k1 : Ah p x.elem = 1
 .rw [if_pos k1]; exact ⟨_, by simp [Ct]; rfl⟩
 by_cases k3 : Ah p x.elem = 3
 .rw [if_neg k1, if_pos k3]; exact ⟨_, by simp [Ct]; rfl⟩
 have : CH (Ah p x.elem) = 0 := by unfold CH; rw [if_neg k1, if_neg k2, if_neg k3, if_neg k4]
 omega
theorem Ze (hv : CT p) (hn : CJ p n) (h1 : r.steps.length <= 12) (h2 : r.needs.length <= 1000) : ∀ (m : Nat) (b : Bool) (vis : List (AF × Bool)) (g : List AJ) (z h : List Int) (met : List AF) (x : AF), HU p vis < m -> x ∈ Bj p -> CI p vis g z h met -> Yp p n r m b vis g z h met x := by
 intro m
 induction m with
 | zero => intro b vis g z h met x hu; omega
 | succ m ih =>
  intro b vis g z h met x hu hx hi
  have lz := hi.lz; have lg := hi.lg; have lh := hi.lh; have lm := hi.lm
  have hhas : CQ p x = true := by
   obtain ⟨i, hi⟩ := List.mem_iff_getElem?.1 hx
   exact hv.join.has i x hi
  have hdec : ¬ (x.elem ∈ r.steps.map (·.elem) \/ x ∈ met) -> Bb vis x = false /\ HU p (BC x true vis) < m := fun c => by
   have : Bb vis x = false := by
    cases hs : Bb vis x with
    | false => rfl
    | true => exact absurd (.inr ((hi.mt x).2 hs)) c
   have := RQ hx this
   exact ⟨by assumption, by omega⟩
  have hcs : Nx (m + 1) (GC p r g z h b met, x) = Tg p r (Nx m) g z h b met x := by
   show CX (Nx m) (GC p r g z h b met) x = _
   refine Xt hv h1 h2 (Nx m) g z h b met x (fun c q S' hq hS => ?_) (by omega) (by omega) (by omega) (by omega)
   obtain ⟨hs, hu'⟩ := hdec c
   obtain ⟨b', vis', g', z', h', met', e, _⟩ := ih (BT b z x.elem).2.1 (BC x true vis) g (BT b z x.elem).2.2 h (met ++ [x]) q hu' (Gk hq) (hi.mark hx hs (S1 lz) (by omega) (by omega))
   rw [e] at hS; cases hS; rfl
  unfold Yp
  rw [hcs]
  have round : ∀ l k, FI p r.steps 700 k vis g z h (l ++ [x]) -> ∀ s, s = Nv p r.steps r.needs b vis g z h l x -> AO (B2 n r r.steps r.needs p) (b, vis, g, z, h, l ++ [x]) = AO (B2 n r r.steps r.needs p) s /\ FI p r.steps 700 (k + 1) s.2.1 s.2.2.1 s.2.2.2.1 s.2.2.2.2.1 s.2.2.2.2.2 := fun l k hf s hs => by
   have hm := hf.meas
   simp only [List.length_append, List.length_cons, List.length_nil] at hm
   refine ⟨Bq ?_, V5 hv hf hs⟩
   rw [hs]
   exact RT hn h1 h2 b vis g z h l x (by omega) (by omega) (by omega) (by omega)
  unfold Tg
  by_cases c : x.elem ∈ r.steps.map (·.elem) \/ x ∈ met
  .rw [if_pos c]
   refine ⟨b, vis, g, z, h, met, rfl, hi, Nat.le_refl _, fun l k hf => ⟨k + 1, ?_⟩⟩
   have := round l k hf _ rfl
   unfold Nv at this
   rw [if_pos (by rw [<- hi.mt]; exact c)] at this
   exact this
  rw [if_neg c]
  obtain ⟨hs, hu'⟩ := hdec c
  have hul := Xp (p := p) (vis := vis) x
  have c' : ¬ (x.elem ∈ r.steps.map (·.elem) \/ Bb vis x = true) := by rw [<- hi.mt]; exact c
  unfold Nv at round
  simp only [if_neg c'] at round
  by_cases k1 : 0 <= Ay p x /\ p.hard = false
  .rw [if_pos k1]
   simp only [if_pos k1] at round
   refine ⟨b, BC x true vis, g, z, _, met ++ [x], rfl, hi.mark hx hs lz (by omega) (by split <;> simp), hul, fun l k hf => ⟨k + 1, round l k hf _ rfl⟩⟩
  rw [if_neg k1]
  simp only [if_neg k1] at round
  by_cases k4 : Ah p x.elem = 4
  .rw [if_pos k4]
   simp only [if_pos k4] at round
   exact ⟨true, BC x true vis, g, z, h, met ++ [x], rfl, hi.mark hx hs lz (by omega) (by omega), hul, fun l k hf => ⟨k + 1, round l k hf _ rfl⟩⟩
  rw [if_neg k4]
  simp only [if_neg k4] at round
  have hc2 := hi.mark (g' := g) (z' := (BT b z x.elem).2.2) (h' := h) hx hs (S1 lz) (by omega) (by omega)
  have stay : ¬ (BT b z x.elem).1 = true -> ∀ (P : Prop), True := fun _ _ => trivial
  by_cases k2 : Ah p x.elem = 2
  .rw [if_pos k2]
   simp only [if_pos k2] at round
   by_cases f0 : x.fin = 0
   .rw [if_pos f0]
    simp only [if_pos f0] at round
    by_cases t1 : (BT b z x.elem).1 = true
    .rw [if_pos t1]
     simp only [if_pos t1] at round
     obtain ⟨b1, v1, g1, z1, q1, m1, e1, i1, u1, s1⟩ := MM ih (b := (BT b z x.elem).2.1) ⟨x.elem, 1⟩ hu' hc2
     obtain ⟨b2, v2, g2, z2, q2, m2, e2, i2, u2, s2⟩ := MM ih (b := b1) (vis := v1) ⟨x.elem, 2⟩ (by omega) i1
     refine ⟨b2, v2, g2, z2, q2, m2, by rw [e1]; exact e2, i2, by omega, fun l k hf => ?_⟩
     obtain ⟨r1, r2⟩ := round l k hf _ rfl
     obtain ⟨k3, r3, r4⟩ := s1 _ _ r2
     obtain ⟨k5, r5, r6⟩ := s2 _ _ r4
     exact ⟨k5, r1.trans (r3.trans r5), r6⟩
    rw [if_neg t1]
    simp only [if_neg t1] at round
    exact ⟨_, BC x true vis, g, _, h, met ++ [x], rfl, hc2, hul, fun l k hf => ⟨k + 1, round l k hf _ rfl⟩⟩
   rw [if_neg f0]
   simp only [if_neg f0] at round
   by_cases a : (⟨x.elem, x.fin⟩ : AJ) ∈ r.needs \/ (⟨x.elem, x.fin⟩ : AJ) ∈ g
   .rw [if_pos a]
    simp only [if_pos a] at round
    by_cases t1 : (BT b z x.elem).1 = true
    .rw [if_pos t1]
     simp only [if_pos t1] at round
     obtain ⟨b1, v1, g1, z1, q1, m1, e1, i1, u1, s1⟩ := MM ih (b := (BT b z x.elem).2.1) ⟨x.elem, 0⟩ hu' hc2
     refine ⟨b1, v1, g1, z1, q1, m1, e1, i1, by omega, fun l k hf => ?_⟩
     obtain ⟨r1, r2⟩ := round l k hf _ rfl
     obtain ⟨k3, r3, r4⟩ := s1 _ _ r2
     exact ⟨k3, r1.trans r3, r4⟩
    rw [if_neg t1]
    simp only [if_neg t1] at round
    exact ⟨_, BC x true vis, g, _, h, met ++ [x], rfl, hc2, hul, fun l k hf => ⟨k + 1, round l k hf _ rfl⟩⟩
   rw [if_neg a]
   simp only [if_neg a] at round
   exact ⟨b, BC x true vis, _, z, h, met ++ [x], rfl, hi.mark hx hs lz (by split <;> simp) (by omega), hul, fun l k hf => ⟨k + 1, round l k hf _ rfl⟩⟩
  rw [if_neg k2]
  simp only [if_neg k2] at round
  obtain ⟨o, ho⟩ : ∃ o, Ba p x.elem x.fin 0 = some o := PB hhas k2 k4
  simp only [ho] at round
  rw [ho, Option.getD_some]
  by_cases t1 : (BT b z x.elem).1 = true
  .rw [if_pos t1]
   simp only [if_pos t1] at round
   obtain ⟨b1, v1, g1, z1, q1, m1, e1, i1, u1, s1⟩ := MM ih (b := (BT b z x.elem).2.1) ⟨x.elem, o⟩ hu' hc2
   refine ⟨b1, v1, g1, z1, q1, m1, e1, i1, by omega, fun l k hf => ?_⟩
   obtain ⟨r1, r2⟩ := round l k hf _ rfl
   obtain ⟨k3, r3, r4⟩ := s1 _ _ r2
   exact ⟨k3, r1.trans r3, r4⟩
  rw [if_neg t1]
  simp only [if_neg t1] at round
  exact ⟨_, BC x true vis, g, _, h, met ++ [x], rfl, hc2, hul, fun l k hf => ⟨k + 1, round l k hf _ rfl⟩⟩
end
end Go.E
/- Plain Lean: the flank of a road: the document's answer and the program's are one (law FlankOfs). No condition. -/
namespace Go.E
open Go
section
variable {p : AM} {n : BI} {r : AW}
theorem Zf (hv : CT p) (g : List AJ) (z h : List Int) (b : Bool) (met : List AF) {x y : AF} (hy : As p x = some y) {g' : List AJ} {z' h' : List Int} {b' : Bool} {met' : List AF} (hc : Nx 1000 (GC p r g z h b met, y) = some (GC p r g' z' h' b' met')) :
  Jh (GC p r g z h b met) x.elem x.fin = some (GC p r g' z' h' b' met') := by
 have hj := hv.nj
 show DH (Ox (fun (rc : (Aq × Int × Int) -> Option Aq) (a : (Aq × Int × Int)) => DH rc a.1 a.2.1 a.2.2) 999) (GC p r g z h b met) x.elem x.fin = _
 have hc' : Ia (GC p r g z h b met) y = some (GC p r g' z' h' b' met') := hc
 unfold DH GC at *
 simp only [BP p (show p.joins.length < 1000000 by omega), hy, Option.bind_some, Option.isSome_some, cond_true, Option.getD_some, hc']
def flT (p : AM) (r : AW) (i : Int) (g : List AJ) (z h : List Int) (b : Bool) (met : List AF) : Int × (List Bv) × (List Bs) × (List BB) × (List CC) × Int × Int × Int × Int × Bool × Int × Int × Int × (List AV) × (List AJ) × Bool × (List AJ) × (List Int) × (List Int) × (List AF) :=
 (i, p.elems, p.joins, p.signals, p.lines, p.top, p.brake, p.margin, p.throw, p.hard, r.frm, r.to, r.fin, r.steps, r.needs, b, g, z, h, met)
theorem W2 (hv : CT p) (hn : CJ p n) (h1 : r.steps.length <= 12) (h2 : r.needs.length <= 1000) (L : List AF) (hL : L.length <= 24) (hLj : ∀ x ∈ L, ∃ y, As p x = some y) : ∀ (rest : List AF) (i : Nat) (b : Bool) (vis : List (AF × Bool)) (g : List AJ) (z h : List Int) (met : List AF) (k : Nat), L.drop i = rest -> i <= L.length -> CI p vis g z h met -> FI p r.steps 700 k vis g z h (Cf p rest).reverse ->
  ∃ R, AO (GY L) (flT p r (i : Int) g z h b met) = some R /\ AO (B2 n r r.steps r.needs p) (b, vis, g, z, h, (Cf p rest).reverse) = some R := by
 have hj := hv.nj
 intro rest
 induction rest with
 | nil =>
  intro i b vis g z h met k hd hi hc hf
  have : i = L.length := by have := congrArg List.length hd; simp at this; omega
  subst this
  refine ⟨⟨r.frm, r.to, r.fin, r.steps, r.needs, g, z, h, b⟩, Be ?_, Be rfl⟩
  simp [GY, flT]
 | cons x rest ih =>
  intro i b vis g z h met k hd hi hc hf
  have hlt : i < L.length := by have := congrArg List.length hd; simp at this; omega
  have hx : L[i]? = some x := by
   have : (L.drop i)[0]? = some x := by rw [hd]; rfl
   simpa using this
  have hr : L.drop (i + 1) = rest := by
   have : (L.drop i).drop 1 = rest := by rw [hd]; rfl
   rwa [List.drop_drop] at this
  obtain ⟨y, hy⟩ := hLj x (List.mem_of_getElem? hx)
  have hq : (Cf p (x :: rest)).reverse = (Cf p rest).reverse ++ [y] := by unfold Cf; simp [hy]
  have hu : HU p vis < 1000 := by
   have h3 : HU p vis <= (Bj p).length := List.length_filter_le _ _
   have h4 : (Bj p).length = 2 * p.joins.length := Ee _
   omega
  obtain ⟨b', vis', g', z', h', met', e1, i1, u1, s1⟩ := Ze hv hn h1 h2 1000 b vis g z h met y hu (Gk hy) hc
  rw [hq] at hf ⊢
  obtain ⟨k', e2, f2⟩ := s1 _ _ hf
  obtain ⟨R, e3, e4⟩ := ih (i + 1) b' vis' g' z' h' met' k' hr (by omega) i1 f2
  refine ⟨R, ?_, by rw [e2, e4]⟩
  rw [<- e3]
  refine Bq ?_
  have hon := Zf (r := r) hv g z h b met hy e1
  unfold GC at hon
  simp only [GY, flT, A3 hx, cond_true, AX, hx, Option.bind_some]
  rw [hon]
  simp only [Option.bind_some, AP (show i < 1000000000 by omega)]
  simp only [Int.ofNat_lt, hlt, decide_true, cond_true]
theorem Yq (hv : CT p) (hn : CJ p n) (h1 : r.steps.length <= 12) (h2 : r.needs.length <= 1000) : ∃ R, Ip p r = some R /\ Ey n r = some R := by
 have hj := hv.nj
 have hp := G8 (p := p) r.steps
 rw [Pz hv hn h1 h2]
 unfold Ip
 simp only [A8 (show ([] : List AV).length + r.steps.length <= 4294967296 by simp; omega), A8 (show ([] : List AJ).length + r.needs.length <= 4294967296 by simp; omega), List.nil_append, Option.bind_some, Sx hv r (show r.steps.length <= 1000 by omega)]
 have h3 : HU p [] <= (Bj p).length := List.length_filter_le _ _
 have h4 : (Bj p).length = 2 * p.joins.length := Ee _
 refine W2 hv hn h1 h2 (CU p r.steps) (by omega) (fun x hx => Jp hx) (CU p r.steps) 0 false [] [] [] [] [] 0 rfl (Nat.zero_le _) ⟨fun y => by simp [Bb, Ap], by simp, by simp; omega, by simp; omega, by simp; omega⟩ ⟨⟨by simp, by simp, by simp, by simp⟩, ⟨by simp, by simp⟩, fun _ => rfl, fun y hy => ?_, by simp, by simp, ?_⟩
 .have := List.mem_reverse.1 hy
  obtain ⟨x, hx, rfl⟩ := List.mem_map.1 this
  obtain ⟨y, hy⟩ := Jp hx
  rw [hy]
  exact Gk hy
 simp only [Cf, List.length_reverse, List.length_map]
 omega
end
end Go.E
/- Plain Lean: whether a road is ready, by the program and by the document (law FlankReady). No condition. -/
namespace Go.E
open Go
theorem GB {α β : Type} {l : List α} {step : Int -> Option (Int ⊕ β)} (bad : α -> Bool) (x : β) (fin : Option β) (h0 : step (l.length : Int) = fin.map .inr)
  (h1 : ∀ (i : Nat) a, l[i]? = some a -> step (i : Int) = if bad a = true then some (.inr x) else some (.inl ((i + 1 : Nat) : Int))) : AO step 0 = if l.any bad = true then some x else fin := by
 refine IE (γ := Unit) l (fun i _ => (i : Int)) (fun _ _ r => if r.any bad = true then some x else fin) (fun _ => ?_) (fun i c a r ha hi => ?_) ()
 .simpa using h0
 rw [h1 i a ha]
 cases hb : bad a with
 | true => left; simp [hb]
 | false => right; exact ⟨(), by simp, by simp [hb]⟩
end Go.E
/- Plain Lean: a road that is ready is so no more when one thing is otherwise (law FlankOne). No condition. -/
namespace Go.E
open Go
section
variable {p : AM} {n : BI} {r : AW}
end
end Go.E
/- Plain Lean: what a road's flank keeps: nobody comes in but from its zone (law FlankKeeps). No condition. -/
namespace Go.E
open Go
section
variable {p : AM} {n : BI} {r : AW}
def Xu (st : List AV) (vis : List (AF × Bool)) (l : List AF) (y : AF) : Prop := y ∈ l \/ Bb vis y = true \/ y.elem ∈ st.map (·.elem)
structure Uo (p : AM) (nd g : List AJ) (z h : List Int) (at_ : AF -> Prop) (x : AF) : Prop where
 held : 0 <= Ay p x /\ p.hard = false -> Ay p x ∈ h
 gate : ¬ (0 <= Ay p x /\ p.hard = false) -> Ah p x.elem ≠ 4
 toe : ¬ (0 <= Ay p x /\ p.hard = false) -> Ah p x.elem = 2 -> x.fin = 0 -> x.elem ∈ z /\ ∀ o, (o = 1 \/ o = 2) -> ∀ y, As p ⟨x.elem, o⟩ = some y -> at_ y
 leg : ¬ (0 <= Ay p x /\ p.hard = false) -> Ah p x.elem = 2 -> x.fin ≠ 0 -> (x.elem ∈ z /\ ∀ y, As p ⟨x.elem, 0⟩ = some y -> at_ y) \/ (⟨x.elem, AQ (3 - x.fin)⟩ : AJ) ∈ g
 other : ¬ (0 <= Ay p x /\ p.hard = false) -> Ah p x.elem ≠ 2 -> ∀ o, Ba p x.elem x.fin 0 = some o -> x.elem ∈ z /\ ∀ y, As p ⟨x.elem, o⟩ = some y -> at_ y
theorem Uo.mono {nd g g' : List AJ} {z z' h h' : List Int} {a a' : AF -> Prop} {x : AF} (hk : Uo p nd g z h a x) (hg : ∀ m ∈ g, m ∈ g') (hz : ∀ m ∈ z, m ∈ z') (hh : ∀ m ∈ h, m ∈ h') (ha : ∀ y, a y -> a' y) : Uo p nd g' z' h' a' x :=
 ⟨fun c => hh _ (hk.held c), hk.gate, fun c k f => ⟨hz _ (hk.toe c k f).1, fun o ho y hy => ha _ ((hk.toe c k f).2 o ho y hy)⟩,
  fun c k f => (hk.leg c k f).imp (fun q => ⟨hz _ q.1, fun y hy => ha _ (q.2 y hy)⟩) (hg _), fun c k o ho => ⟨hz _ (hk.other c k o ho).1, fun y hy => ha _ ((hk.other c k o ho).2 y hy)⟩⟩
structure KI (p : AM) (st : List AV) (nd : List AJ) (b : Bool) (vis : List (AF × Bool)) (g : List AJ) (z h : List Int) (l : List AF) : Prop where
 seen : b = false -> ∀ x, Bb vis x = true -> Uo p nd g z h (Xu st vis l) x
 init : ∀ x y, x ∈ CU p st -> As p x = some y -> Xu st vis l y
theorem KI.next {st : List AV} {nd : List AJ} {b b' : Bool} {vis vis' : List (AF × Bool)} {g g' : List AJ} {z z' h h' : List Int} {l l' : List AF} {x : AF} (hi : KI p st nd b vis g z h (l ++ [x]))
  (hb : b' = false -> b = false) (hv : ∀ y, Bb vis y = true -> Bb vis' y = true) (hv2 : ∀ y, Bb vis' y = true -> Bb vis y = true \/ y = x) (hl : ∀ y ∈ l, y ∈ l') (hx : Bb vis' x = true \/ x.elem ∈ st.map (·.elem))
  (hg : ∀ m ∈ g, m ∈ g') (hz : ∀ m ∈ z, m ∈ z') (hh : ∀ m ∈ h, m ∈ h') (hr : b' = false -> Bb vis x = false -> Bb vis' x = true -> Uo p nd g' z' h' (Xu st vis' l') x) : KI p st nd b' vis' g' z' h' l' := by
 have ha : ∀ y, Xu st vis (l ++ [x]) y -> Xu st vis' l' y := by
  rintro y (hy | hy | hy)
  .rcases List.mem_append.1 hy with hy | hy
   .exact .inl (hl y hy)
   simp at hy; subst hy; exact .inr hx
  .exact .inr (.inl (hv y hy))
  exact .inr (.inr hy)
 refine ⟨fun hb' y hy => ?_, fun y q hy hq => ha q (hi.init y q hy hq)⟩
 cases hs : Bb vis y with
 | true => exact (hi.seen (hb hb') y hs).mono hg hz hh ha
 | false =>
  rcases hv2 y hy with hy2 | rfl
  .rw [hs] at hy2; cases hy2
  exact hr hb' hs hy
end
end Go.E
/- Plain Lean: whether a road's flank keeps all others out, told without an order (MN, PE), and the program's answer. No condition. -/
namespace Go.E
open Go
def CS (nl : List AJ) (e : Int) : Option Int := (nl.find? fun m => m.elem == e).map (·.pos)
def LG (lay : Int -> Option Int) (e : Int) (w : BO) : List Int := if w.pos = 0 \/ lay e = none \/ lay e = some w.pos then [w.out] else []
def Cr (p : AM) (lay : Int -> Option Int) (x : AF) : List Int := (BS p x.elem x.fin).flatMap (LG lay x.elem)
def EN (p : AM) (holds : List Int) (x : AF) : Prop := p.hard = false /\ 0 <= Ay p x /\ Ay p x ∈ holds
instance (p : AM) (holds : List Int) (x : AF) : Decidable (EN p holds x) := by unfold EN; infer_instance
def EO (p : AM) (lay : Int -> Option Int) (zone : List Int) (x : AF) : Prop := Ah p x.elem ≠ 4 /\ (Cr p lay x ≠ [] -> x.elem ∈ zone)
instance (p : AM) (lay : Int -> Option Int) (zone : List Int) (x : AF) : Decidable (EO p lay zone x) := by unfold EO; infer_instance
inductive Ny (p : AM) (lay : Int -> Option Int) (holds : List Int) (st : List AV) : AF -> Prop
 | init {x y : AF} : x ∈ CU p st -> As p x = some y -> Ny p lay holds st y
 | step {x y : AF} {o : Int} : Ny p lay holds st x -> x.elem ∉ st.map (·.elem) -> ¬ EN p holds x -> o ∈ Cr p lay x -> As p ⟨x.elem, o⟩ = some y -> Ny p lay holds st y
def MN (p : AM) (lay : Int -> Option Int) (holds zone : List Int) (st : List AV) : Prop := ∀ x, Ny p lay holds st x -> x.elem ∉ st.map (·.elem) -> ¬ EN p holds x -> EO p lay zone x
def Hq (nl : List AJ) : Prop := ∀ a ∈ nl, ∀ b ∈ nl, a.elem = b.elem -> a.pos = b.pos
structure PE (p : AM) (r : AW) : Prop where
 cons : Hq (r.needs ++ r.guards)
 guard : ∀ m ∈ r.guards, Ah p m.elem = 2 /\ (m.pos = 1 \/ m.pos = 2)
 zone : ∀ e ∈ r.zone, 0 <= e /\ e < p.elems.length /\ e ∉ r.steps.map (·.elem)
 hold : ∀ s ∈ r.holds, 0 <= s /\ s < p.signals.length
 kept : MN p (CS (r.needs ++ r.guards)) r.holds r.zone r.steps
theorem Nz (p : AM) (lay : Int -> Option Int) (x : AF) : (Cr p lay x).length <= 2 := by
 have h1 := F2 p x.elem x.fin
 have h2 := IG (LG lay x.elem) 1 (BS p x.elem x.fin) (fun w _ => by unfold LG; split <;> simp)
 unfold Cr
 omega
section
variable {p : AM} {n : BI} {r : AW} {lay : Int -> Option Int} {holds zone : List Int} {st : List AV}
theorem Ny.in_ports {x : AF} (h : Ny p lay holds st x) : x ∈ Bj p := by
 cases h with
 | init _ h2 => exact Gk h2
 | step _ _ _ _ h2 => exact Gk h2
structure GI (p : AM) (lay : Int -> Option Int) (holds zone : List Int) (st : List AV) (V : AF -> Prop) (q : List AF) : Prop where
 arr : ∀ x ∈ q, Ny p lay holds st x
 full : ∀ x, V x -> x.elem ∉ st.map (·.elem) -> ¬ EN p holds x -> EO p lay zone x /\ ∀ o ∈ Cr p lay x, ∀ y, As p ⟨x.elem, o⟩ = some y -> y ∈ q \/ V y
 init : ∀ x y, x ∈ CU p st -> As p x = some y -> y ∈ q \/ V y
theorem GI.done {V : AF -> Prop} (h : GI p lay holds zone st V []) : MN p lay holds zone st := by
 have key : ∀ x, Ny p lay holds st x -> V x := by
  intro x hx
  induction hx with
  | init h1 h2 => exact (h.init _ _ h1 h2).resolve_left (by simp)
  | step _ h2 h3 h4 h5 ih => exact ((h.full _ ih h2 h3).2 _ h4 _ h5).resolve_left (by simp)
 exact fun x hx h1 h2 => (h.full x (key x hx) h1 h2).1
theorem GI.bad {V : AF -> Prop} {x : AF} {q : List AF} (h : GI p lay holds zone st V (x :: q)) (h1 : x.elem ∉ st.map (·.elem)) (h2 : ¬ EN p holds x) (hb : ¬ EO p lay zone x) : ¬ MN p lay holds zone st :=
 fun hk => hb (hk x (h.arr x (by simp)) h1 h2)
theorem GI.next {V V' : AF -> Prop} {x : AF} {q q' : List AF} (h : GI p lay holds zone st V (x :: q)) (hV : ∀ y, V y -> V' y) (hx : V' x) (hV2 : ∀ y, V' y -> V y \/ y = x) (hq : ∀ y ∈ q, y ∈ q') (hq2 : ∀ y ∈ q', Ny p lay holds st y)
  (hf : ¬ V x -> x.elem ∉ st.map (·.elem) -> ¬ EN p holds x -> EO p lay zone x /\ ∀ o ∈ Cr p lay x, ∀ y, As p ⟨x.elem, o⟩ = some y -> y ∈ q' \/ V' y) : GI p lay holds zone st V' q' := by
 have keep : ∀ y, y ∈ x :: q \/ V y -> y ∈ q' \/ V' y := by
  rintro y (hy | hy)
  .rcases List.mem_cons.1 hy with rfl | hy
   .exact .inr hx
   exact .inl (hq y hy)
  exact .inr (hV y hy)
 refine ⟨hq2, fun y hy h1 h2 => ?_, fun a b ha hb => keep b (h.init a b ha hb)⟩
 by_cases c : V y
 .have := h.full y c h1 h2
  exact ⟨this.1, fun o ho z hz => keep z (this.2 o ho z hz)⟩
 rcases hV2 y hy with hy2 | rfl
 .exact absurd hy2 c
 exact hf c h1 h2
def HV (p : AM) (e : Int) (l : List Int) : List AF := l.flatMap fun o => match As p ⟨e, o⟩ with
 | some y => [y]
 | none => []
theorem RV {e o : Int} {l : List Int} {y : AF} : y ∈ HV p e l ↔ ∃ o ∈ l, As p ⟨e, o⟩ = some y := by
 unfold HV
 rw [List.mem_flatMap]
 constructor
 .rintro ⟨o, ho, hy⟩
  cases hx : As p ⟨e, o⟩ with
  | none => rw [hx] at hy; cases hy
  | some z => rw [hx] at hy; simp at hy; subst hy; exact ⟨o, ho, hx⟩
 rintro ⟨o, ho, hy⟩
 exact ⟨o, ho, by rw [hy]; simp⟩
theorem RW (e : Int) (l : List Int) : (HV p e l).length <= l.length := by
 have := IG (fun o => match As p ⟨e, o⟩ with | some y => [y] | none => []) 1 l (fun o _ => by split <;> simp)
 unfold HV
 omega
theorem GI.go {V V' : AF -> Prop} {x : AF} {q : List AF} (h : GI p lay holds zone st V (x :: q)) (h1 : x.elem ∉ st.map (·.elem)) (h2 : ¬ EN p holds x) (hg : EO p lay zone x) (hV : ∀ y, V' y ↔ V y \/ y = x) : GI p lay holds zone st V' (q ++ HV p x.elem (Cr p lay x)) := by
 have hx := h.arr x (by simp)
 refine h.next (fun y hy => (hV y).2 (.inl hy)) ((hV x).2 (.inr rfl)) (fun y hy => (hV y).1 hy) (fun y hy => List.mem_append_left _ hy) (fun y hy => ?_) (fun _ _ _ => ⟨hg, fun o ho y hy => .inl (List.mem_append_right _ (RV (o := o) |>.2 ⟨o, ho, hy⟩))⟩)
 rcases List.mem_append.1 hy with hy | hy
 .exact h.arr y (by simp [hy])
 obtain ⟨o, ho, hy⟩ := (RV (o := 0)).1 hy
 exact .step hx h1 h2 ho hy
theorem Yr (hn : CJ p n) (x : AF) (m : List (Int × Int)) (hm : ∀ e, Ap m e = lay e) : HK n x m = some (Cr p lay x) := by
 unfold HK Cr
 have hl := F2 p x.elem x.fin
 simp only [IF hn, Option.bind_some]
 generalize BS p x.elem x.fin = L at hl
 have := IH 0 (l := L) (LG lay x.elem) (fun w => by unfold LG; split <;> simp) (by omega) (step := FM x m L) (fin := fun o => o) (fun o => by simp only [FM, BL, cond_false]) (fun i w o ha hb => by
  have := A7 ha
  simp only [FM, A3 ha, cond_true, AX, ha, Option.bind_some, hm, AP (show i < 1000000000 by omega)]
  unfold LG
  have ap := A8 (show o.length + [w.out].length <= 4294967296 by simp; omega)
  by_cases c : w.pos = 0
  .simp [c, ap]
  have cb : (w.pos == 0) = false := beq_eq_false_iff_ne.2 c
  cases hy : lay x.elem with
  | none => simp [c, cb, ap]
  | some q =>
   by_cases d : w.pos = q
   .subst d; simp [c, cb, ap]
   have db : (w.pos == q) = false := beq_eq_false_iff_ne.2 d
   have de : ¬ q = w.pos := fun h => d h.symm
   simp [c, cb, db, de]) [] (by simp)
 simpa using this
theorem W3 (hn : CJ p n) (s : List AF × List (AF × Bool)) (x : AF) (l : List Int) (hl : l.length <= 10) (q : List AF) (hq : q.length <= 1000) : AO (Db n s x l) (0, q) = some (.inl (q ++ HV p x.elem l, BC x true s.2)) := by
 unfold HV
 exact IH 1000 (l := l) (fun o => match As p ⟨x.elem, o⟩ with | some y => [y] | none => []) (fun o => by split <;> simp) (by omega) (step := Db n s x l) (fin := fun o => (Sum.inl (o, BC x true s.2) : (List AF × List (AF × Bool)) ⊕ Bool)) (fun o => by simp only [Db, BL, cond_false]) (fun i a o ha hb => by
  have := A7 ha
  simp only [Db, A3 ha, cond_true, AX, ha, Option.bind_some, FX hn, AP (show i < 1000000000 by omega)]
  cases As p ⟨x.elem, a⟩ with
  | none => simp
  | some y => simp [A8 (show o.length + [y].length <= 4294967296 by simp; omega)]) q hq
theorem TO (hn : CJ p n) (h1 : r.steps.length <= 1000) (h2 : r.zone.length <= 1000) (h3 : r.holds.length <= 1000) (y3 : List (Int × Int) × Bool) (hm : ∀ e, Ap y3.1 e = lay e) (x : AF) (q : List AF) (hq : q.length <= 1000) (vis : List (AF × Bool)) :
  CP n r y3 p (x :: q, vis) = some (if Bb vis x = true \/ x.elem ∈ r.steps.map (·.elem) \/ EN p r.holds x then .inl (q, vis) else if EO p lay r.zone x then .inl (q ++ HV p x.elem (Cr p lay x), BC x true vis) else .inr false) := by
 have d : decide ((0 : Int) < (((x :: q).length : Nat) : Int)) = true := by simp
 have e0 : Ak (x :: q) 0 = some x := rfl
 have vb : (Ap vis x).getD false = Bb vis x := rfl
 have es : (bif !p.hard then (Bw n x).bind fun y2018 => bif decide (0 <= y2018) then (Bw n x).bind fun y2021 => (BU r.holds y2021).bind fun y2023 => some y2023 else some false else some false : Option Bool) = some (decide (EN p r.holds x)) := by
  unfold EN
  simp only [JK hn, Option.bind_some, Jq r.holds (show r.holds.length < 1000000 by omega)]
  by_cases hh : p.hard = true
  .simp [hh]
  have hf : p.hard = false := by simpa using hh
  by_cases c : 0 <= Ay p x
  .simp [hf, c]
  simp [hf, c]
 have eb : (bif Bb vis x then some true else (Fu r x.elem).bind fun y2013 => bif y2013 then some true else (bif !p.hard then (Bw n x).bind fun y2018 => bif decide (0 <= y2018) then (Bw n x).bind fun y2021 => (BU r.holds y2021).bind fun y2023 => some y2023 else some false else some false) : Option Bool) = some (decide (Bb vis x = true \/ x.elem ∈ r.steps.map (·.elem) \/ EN p r.holds x)) := by
  rw [es]
  cases hs : Bb vis x with
  | true => simp
  | false =>
   simp only [cond_false, Ul r (show r.steps.length < 1000000 by omega), Option.bind_some]
   by_cases c : x.elem ∈ r.steps.map (·.elem)
   .rw [decide_eq_true c]; simp only [cond_true, c, true_or, or_true, decide_true]
   rw [decide_eq_false c]; simp only [cond_false, c, false_or, Bool.false_eq_true]
 unfold CP
 simp only [d, cond_true, e0, Un, Option.bind_some, vb]
 rw [eb]
 simp only [Option.bind_some]
 by_cases c : Bb vis x = true \/ x.elem ∈ r.steps.map (·.elem) \/ EN p r.holds x
 .rw [if_pos c, decide_eq_true c]; rfl
 rw [if_neg c, decide_eq_false c]
 simp only [cond_false, EE hn, Option.bind_some, Yr hn x y3.1 hm, Jq r.zone (show r.zone.length < 1000000 by omega)]
 have hb := Nz p lay x
 by_cases k4 : Ah p x.elem = 4
 .have : ¬ EO p lay r.zone x := fun h => h.1 k4
  rw [if_neg this, k4]; rfl
 have b4 : (Ah p x.elem == 4) = false := beq_eq_false_iff_ne.2 k4
 simp only [b4, cond_false]
 by_cases hg : EO p lay r.zone x
 .rw [if_pos hg]
  have : (bif decide ((0 : Int) < ((Cr p lay x).length : Int)) then some (!decide (x.elem ∈ r.zone)) else some false : Option Bool) = some false := by
   by_cases hl : Cr p lay x = []
   .simp [hl]
   have := hg.2 hl
   simp [this]
  rw [this]
  simp only [Option.bind_some, cond_false]
  exact W3 hn _ x _ (by omega) q hq
 rw [if_neg hg]
 have : (bif decide ((0 : Int) < ((Cr p lay x).length : Int)) then some (!decide (x.elem ∈ r.zone)) else some false : Option Bool) = some true := by
  have hl : Cr p lay x ≠ [] := fun h => hg ⟨k4, fun h2 => absurd h h2⟩
  have hz : x.elem ∉ r.zone := fun h => hg ⟨k4, fun _ => h⟩
  have := List.length_pos_iff.2 hl
  have hd : decide ((0 : Int) < ((Cr p lay x).length : Int)) = true := decide_eq_true (by omega)
  rw [hd, decide_eq_false hz]; rfl
 rw [this]; rfl
theorem P0 (l : List AV) : ∀ y ∈ Cf p (CU p l), ∃ x ∈ CU p l, As p x = some y := fun y hy => by
 obtain ⟨x, hx, rfl⟩ := List.mem_map.1 hy
 obtain ⟨y, h⟩ := Jp hx
 exact ⟨x, hx, by rw [h]; rfl⟩
theorem S2 {l : List AV} {x y : AF} (hx : x ∈ CU p l) (hy : As p x = some y) : y ∈ Cf p (CU p l) := List.mem_map.2 ⟨x, hx, by rw [hy]; rfl⟩
theorem SF (hv : CT p) (hn : CJ p n) (h1 : r.steps.length <= 12) (h2 : r.zone.length <= 1000) (h3 : r.holds.length <= 1000) (y3 : List (Int × Int) × Bool) (hm : ∀ e, Ap y3.1 e = lay e) :
  ∃ b, AO (CP n r y3 p) (Cf p (CU p r.steps), []) = some b /\ (b = true ↔ MN p lay r.holds r.zone r.steps) := by
 have hj := hv.nj
 have hp := G8 (p := p) r.steps
 have h4 : (Bj p).length = 2 * p.joins.length := Ee _
 refine ED (step := CP n r y3 p) (Post := fun b => b = true ↔ MN p lay r.holds r.zone r.steps)
  (fun k s => GI p lay r.holds r.zone r.steps (fun y => Bb s.2 y = true \/ y.elem ∈ r.steps.map (·.elem) \/ EN p r.holds y) s.1 /\ k + s.1.length + 3 * HU p s.2 <= 700) 700 ?_ ?_
 .rintro k ⟨q, vis⟩ ⟨hi, hms⟩
  dsimp only at hi hms
  cases q with
  | nil => exact .inl ⟨true, by simp [CP], fun _ => hi.done, fun _ => rfl⟩
  | cons x q =>
   simp only [List.length_cons] at hms
   rw [TO (lay := lay) hn (by omega) h2 h3 y3 hm x q (by omega) vis]
   by_cases c : Bb vis x = true \/ x.elem ∈ r.steps.map (·.elem) \/ EN p r.holds x
   .rw [if_pos c]
    refine .inr ⟨by omega, _, rfl, hi.next (fun _ h => h) c (fun _ h => .inl h) (fun _ h => h) (fun y hy => hi.arr y (by simp [hy])) fun q => absurd c q, by dsimp only; omega⟩
   rw [if_neg c]
   have c1 : x.elem ∉ r.steps.map (·.elem) := fun h => c (.inr (.inl h))
   have c2 : ¬ EN p r.holds x := fun h => c (.inr (.inr h))
   have c3 : Bb vis x = false := by cases hs : Bb vis x with | false => rfl | true => exact absurd (.inl hs) c
   by_cases hg : EO p lay r.zone x
   .rw [if_pos hg]
    have hx := (hi.arr x (by simp)).in_ports
    have hlt := RQ hx c3
    have hb := Nz p lay x
    have hnl := RW (p := p) x.elem (Cr p lay x)
    refine .inr ⟨by omega, _, rfl, hi.go c1 c2 hg fun y => ?_, by simp only [List.length_append]; omega⟩
    dsimp only
    rw [Jo]
    constructor
    .rintro ((h | h) | h)
     .exact .inr h
     .exact .inl (.inl h)
     exact .inl (.inr h)
    rintro ((h | h) | h)
    .exact .inl (.inr h)
    .exact .inr h
    exact .inl (.inl h)
   rw [if_neg hg]
   exact .inl ⟨false, rfl, fun h => (by cases h), fun h => absurd h (hi.bad c1 c2 hg)⟩
 refine ⟨⟨fun y hy => ?_, fun x hx h1 h2 => ?_, fun x y hx hy => .inl (S2 hx hy)⟩, ?_⟩
 .obtain ⟨x, hx, hy⟩ := P0 r.steps y hy
  exact .init hx hy
 .rcases hx with h | h | h
  .simp [Bb, Ap] at h
  .exact absurd h h1
  exact absurd h h2
 have h3 : HU p [] <= (Bj p).length := List.length_filter_le _ _
 simp only [Cf, List.length_map]
 omega
end
end Go.E
/- Plain Lean: a road that is guarded keeps all out, whatever way other points lie; what a flank keeps is guarded. No condition. -/
namespace Go.E
open Go
theorem MO {nl : List AJ} {e : Int} : CS nl e = none ↔ ∀ m ∈ nl, m.elem ≠ e := by
 unfold CS
 rw [Option.map_eq_none_iff, List.find?_eq_none]
 simp only [beq_iff_eq]
theorem N0 {nl : List AJ} {e q : Int} (h : CS nl e = some q) : (⟨e, q⟩ : AJ) ∈ nl := by
 unfold CS at h
 obtain ⟨m, hm, rfl⟩ := Option.map_eq_some_iff.1 h
 have h1 := List.mem_of_find?_eq_some hm
 have h2 := List.find?_some hm
 simp only [beq_iff_eq] at h2
 subst h2
 exact h1
theorem S3 {nl : List AJ} (hc : Hq nl) {m : AJ} (hm : m ∈ nl) : CS nl m.elem = some m.pos := by
 cases h : CS nl m.elem with
 | none => exact absurd rfl (MO.1 h m hm)
 | some q => rw [hc m hm _ (N0 h) rfl]
section
variable {p : AM} {n : BI} {r : AW} {lay : Int -> Option Int} {holds zone : List Int} {st : List AV} {lie : List Int} {shut : List Bool}
end
end Go.E
/- Plain Lean: whether a road is guarded: the program's answer and the document's are one. No condition. -/
namespace Go.E
open Go
def Kp (p : AM) (m : AJ) : Prop := Ah p m.elem = 2 /\ (m.pos = 1 \/ m.pos = 2)
instance (p : AM) (m : AJ) : Decidable (Kp p m) := by unfold Kp; infer_instance
theorem S4 (l : List AJ) (a : AJ) (e : Int) : CS (l ++ [a]) e = match CS l e with | some q => some q | none => if a.elem = e then some a.pos else none := by
 unfold CS
 rw [List.find?_append]
 cases h : List.find? (fun m => m.elem == e) l with
 | some q => rfl
 | none =>
  by_cases c : a.elem = e
  .simp [c]
  simp [c]
theorem RX {l : List AJ} {a : AJ} (h : Hq l) (ha : ∀ q, CS l a.elem = some q -> q = a.pos) : Hq (l ++ [a]) := by
 intro x hx y hy e
 rcases List.mem_append.1 hx with hx1 | hx1
 .rcases List.mem_append.1 hy with hy1 | hy1
  .exact h x hx1 y hy1 e
  rw [List.mem_singleton.1 hy1] at e ⊢
  exact ha _ (by rw [<- e]; exact S3 h hx1)
 rw [List.mem_singleton.1 hx1] at e ⊢
 rcases List.mem_append.1 hy with hy1 | hy1
 .exact (ha _ (by rw [e]; exact S3 h hy1)).symm
 rw [List.mem_singleton.1 hy1]
section
variable {p : AM} {n : BI} {r : AW}
theorem W4 (hn : CJ p n) (r : AW) (h1 : r.needs.length <= 1000) (h2 : r.guards.length <= 1000) :
  ∃ t : List (Int × Int) × Bool, HJ n r = some t /\ ((t.2 = true /\ Hq (r.needs ++ r.guards) /\ (∀ m ∈ r.guards, Kp p m) /\ ∀ e, Ap t.1 e = CS (r.needs ++ r.guards) e) \/ (t.2 = false /\ ¬ (Hq (r.needs ++ r.guards) /\ ∀ m ∈ r.guards, Kp p m))) := by
 unfold HJ
 have e1 : B9 r.needs = some r.needs := G7 _ (by omega)
 simp only [e1, Option.bind_some, A8 (show r.needs.length + r.guards.length <= 4294967296 by omega)]
 have hg : ∀ i m, r.needs.length <= i -> (r.needs ++ r.guards)[i]? = some m -> m ∈ r.guards := fun i m hi hm => by
  rw [List.getElem?_append_right hi] at hm
  exact List.mem_of_getElem? hm
 have hg2 : ∀ m ∈ r.guards, ∃ i, r.needs.length <= i /\ (r.needs ++ r.guards)[i]? = some m := fun m hm => by
  obtain ⟨i, hi⟩ := List.mem_iff_getElem?.1 hm
  exact ⟨r.needs.length + i, by omega, by rw [List.getElem?_append_right (by omega), Nat.add_sub_cancel_left]; exact hi⟩
 have hlen : (r.needs ++ r.guards).length <= 2000 := by simp; omega
 generalize r.needs ++ r.guards = L at hg hg2 hlen
 refine B0 (l := L) (step := D0 n r L) (Post := fun t => (t.2 = true /\ Hq L /\ (∀ m ∈ r.guards, Kp p m) /\ ∀ e, Ap t.1 e = CS L e) \/ (t.2 = false /\ ¬ (Hq L /\ ∀ m ∈ r.guards, Kp p m)))
  (fun i c => Hq (L.take i) /\ (∀ k m, r.needs.length <= k -> k < i -> L[k]? = some m -> Kp p m) /\ ∀ e, Ap c e = CS (L.take i) e) ?_ ?_ ⟨fun a ha => (by simp at ha), fun k m _ hk => (by omega), fun e => rfl⟩
 .rintro c ⟨i1, i2, i3⟩
  rw [List.take_length] at i1
  refine ⟨(c, true), by simp only [D0, BL, cond_false], .inl ⟨rfl, i1, fun m hm => ?_, fun e => by rw [i3 e, List.take_length]⟩⟩
  obtain ⟨i, hi, hm⟩ := hg2 m hm
  exact i2 i m hi (A7 hm) hm
 rintro i a c ha ⟨i1, i2, i3⟩
 have hi := A7 ha
 have w := AP (show i < 1000000000 by omega)
 have ht : (bif decide ((r.needs.length : Int) <= (i : Int)) then (B1 n a.elem).bind fun y => bif (y != 2) then some true else bif (a.pos != 1) then some (a.pos != 2) else some false else some false : Option Bool) = some (decide (r.needs.length <= i /\ ¬ Kp p a)) := by
  unfold Kp
  rw [EE hn]
  by_cases c1 : r.needs.length <= i
  .have d1 : decide ((r.needs.length : Int) <= (i : Int)) = true := decide_eq_true (by omega)
   rw [d1]
   simp only [cond_true, Option.bind_some]
   by_cases c2 : Ah p a.elem = 2
   .have b2 : (Ah p a.elem != 2) = false := by simp [c2]
    rw [b2]
    by_cases c3 : a.pos = 1
    .simp [c1, c2, c3]
    have b3 : (a.pos != 1) = true := bne_iff_ne.2 c3
    rw [b3]
    by_cases c4 : a.pos = 2
    .simp [c1, c2, c3, c4]
    have b4 : (a.pos != 2) = true := bne_iff_ne.2 c4
    rw [b4]
    simp [c1, c2, c3, c4]
   have b2 : (Ah p a.elem != 2) = true := bne_iff_ne.2 c2
   rw [b2]
   simp [c1, c2]
  have d1 : decide ((r.needs.length : Int) <= (i : Int)) = false := decide_eq_false (by omega)
  rw [d1]; simp [c1]
 have hs : (bif (Ap c a.elem).isSome then some (((Ap c a.elem).getD 0) != a.pos) else some false : Option Bool) = some (match CS (L.take i) a.elem with | some q => q != a.pos | none => false) := by
  rw [i3]
  cases CS (L.take i) a.elem <;> simp
 have hu : D0 n r L ((i : Int), c) = bif decide (r.needs.length <= i /\ ¬ Kp p a) then some (.inr ([], false)) else bif (match CS (L.take i) a.elem with | some q => q != a.pos | none => false) then some (.inr ([], false)) else some (.inl (((i + 1 : Nat) : Int), BC a.elem a.pos c)) := by
  simp only [D0, A3 ha, cond_true, AX, ha, Option.bind_some, w]
  rw [ht]
  simp only [Option.bind_some]
  rw [hs]
  simp only [Option.bind_some]
 rw [hu]
 have htake : L.take (i + 1) = L.take i ++ [a] := by
  rw [List.take_add_one, ha]; rfl
 by_cases c1 : r.needs.length <= i /\ ¬ Kp p a
 .rw [decide_eq_true c1]
  exact .inl ⟨_, rfl, .inr ⟨rfl, fun h => c1.2 (h.2 a (hg i a c1.1 ha))⟩⟩
 rw [decide_eq_false c1]
 cases hy : CS (L.take i) a.elem with
 | none =>
  refine .inr ⟨_, rfl, ?_, fun k m hk hk2 hm => ?_, fun e => ?_⟩
  .rw [htake]; exact RX i1 fun q hq => by rw [hy] at hq; cases hq
  .by_cases e : k = i
   .subst e; rw [ha] at hm; cases hm; exact Decidable.byContradiction fun h => c1 ⟨hk, h⟩
   exact i2 k m hk (by omega) hm
  rw [C7, htake, S4, i3]
  by_cases he : e = a.elem
  .subst he; simp [hy]
  rw [if_neg he]
  have : ¬ a.elem = e := fun h => he h.symm
  rw [if_neg this]
  cases CS (L.take i) e <;> rfl
 | some q =>
  by_cases hq : q = a.pos
  .subst hq
   have : (a.pos != a.pos) = false := by simp
   simp only [this, cond_false]
   refine .inr ⟨_, rfl, ?_, fun k m hk hk2 hm => ?_, fun e => ?_⟩
   .rw [htake]; exact RX i1 fun q hq => by rw [hy] at hq; cases hq; first | rfl | done
   .by_cases e : k = i
    .subst e; rw [ha] at hm; cases hm; exact Decidable.byContradiction fun h => c1 ⟨hk, h⟩
    exact i2 k m hk (by omega) hm
   rw [C7, htake, S4, i3]
   by_cases he : e = a.elem
   .subst he; simp [hy]
   rw [if_neg he]
   have : ¬ a.elem = e := fun h => he h.symm
   rw [if_neg this]
   cases CS (L.take i) e <;> rfl
  have : (q != a.pos) = true := by simp [hq]
  simp only [this, cond_false, cond_true]
  refine .inl ⟨_, rfl, .inr ⟨rfl, fun h => hq ?_⟩⟩
  have h1 := N0 hy
  have h2 : (⟨a.elem, q⟩ : AJ) ∈ L := List.mem_of_mem_take h1
  exact h.1 _ h2 a (List.mem_of_getElem? ha) rfl
theorem RY {β : Type} {L : List AF} (hL : L.length <= 1000) {step : Int × List AF -> Option ((Int × List AF) ⊕ β)} {fin : List AF -> Option β} (h0 : ∀ q, step ((L.length : Int), q) = (fin q).map .inr)
  (h1 : ∀ (i : Nat) x q, L[i]? = some x -> q.length <= 2000 -> step ((i : Int), q) = some (.inl (((i + 1 : Nat) : Int), q ++ [(As p x).getD ⟨0, 0⟩]))) : AO step ((0 : Int), []) = fin (Cf p L) := by
 have key : ∀ (rest : List AF) (i : Nat) (q : List AF), L.drop i = rest -> i <= L.length -> q.length = i -> AO step ((i : Int), q) = fin (q ++ Cf p rest) := by
  intro rest
  induction rest with
  | nil =>
   intro i q hd hi hq
   have : i = L.length := by have := congrArg List.length hd; simp at this; omega
   subst this
   rw [FH, h0]
   simp only [Cf, List.map_nil, List.append_nil]
   cases fin q <;> rfl
  | cons a r ih =>
   intro i q hd hi hq
   have hlt : i < L.length := by have := congrArg List.length hd; simp at this; omega
   have ha : L[i]? = some a := by
    have : (L.drop i)[0]? = some a := by rw [hd]; rfl
    simpa using this
   have hr : L.drop (i + 1) = r := by
    have : (L.drop i).drop 1 = r := by rw [hd]; rfl
    rwa [List.drop_drop] at this
   rw [Bq (h1 i a q ha (by omega)), ih (i + 1) _ hr (by omega) (by simp [hq])]
   simp [Cf]
 simpa using key L 0 [] rfl (Nat.zero_le _) rfl
theorem W5 (hn : CJ p n) (y3 : List (Int × Int) × Bool) (h1 : r.steps.length <= 12) : AO (EX n r y3 p (CU p r.steps)) (0, []) = AO (CP n r y3 p) (Cf p (CU p r.steps), []) := by
 have hp := G8 (p := p) r.steps
 exact RY (L := CU p r.steps) (by omega) (fin := fun q => AO (CP n r y3 p) (q, [])) (fun q => by simp only [EX, BL, cond_false]) (fun i x q hx hq => by
  have := A7 hx
  simp only [EX, A3 hx, cond_true, AX, hx, Option.bind_some, FX hn, A8 (show q.length + [(As p x).getD (⟨0, 0⟩ : AF)].length <= 4294967296 by simp; omega), AP (show i < 1000000000 by omega)])
theorem W6 (hv : CT p) (hn : CJ p n) (h1 : r.steps.length <= 12) (h2 : r.needs.length <= 1000) (h3 : r.guards.length <= 1000) (h4 : r.zone.length <= 1000) (h5 : r.holds.length <= 1000) : ∃ b, Fv n r = some b /\ (b = true ↔ PE p r) := by
 obtain ⟨t, e1, e2⟩ := W4 hn r h2 h3
 unfold Fv
 rw [e1]
 simp only [Option.bind_some]
 rcases e2 with ⟨e2, e3, e4, e5⟩ | ⟨e2, e3⟩
 .rw [e2]
  simp only [Bool.not_true, cond_false]
  have e6 : DD n = some p := by unfold DD; rw [hn.plan, R9 p hv.few]; rfl
  have e7 : Fh n = some (p.elems.length : Int) := Zd hn
  have e8 : CY n = some (p.signals.length : Int) := by unfold CY; rw [hn.plan]
  obtain ⟨b, e9, e10⟩ := SF (lay := CS (r.needs ++ r.guards)) hv hn h1 h4 h5 t e5
  have l2 : AO (EY n r t) 0 = if r.holds.any (fun s => !decide (0 <= s /\ s < (p.signals.length : Int))) = true then some false else some b := by
   refine GB (l := r.holds) _ false (some b) ?_ fun i s hs => ?_
   .simp only [EY, BL, cond_false, e6, Option.bind_some, Um hn r (show r.steps.length <= 1000 by omega)]
    rw [W5 hn t h1, e9]
   have := A7 hs
   simp only [EY, A3 hs, cond_true, AX, hs, Option.bind_some, e8, AP (show i < 1000000000 by omega)]
   by_cases c1 : s < 0
   .have c2 : ¬ (0 <= s /\ s < (p.signals.length : Int)) := by omega
    simp [c1, c2]
   by_cases c2 : (p.signals.length : Int) <= s
   .have c3 : ¬ (0 <= s /\ s < (p.signals.length : Int)) := by omega
    simp [c1, c2, c3]
   have c3 : (0 <= s /\ s < (p.signals.length : Int)) := by omega
   simp [c1, c2, c3]
  have l1 : AO (EZ n r t) 0 = if r.zone.any (fun e => !decide (0 <= e /\ e < (p.elems.length : Int) /\ e ∉ r.steps.map (·.elem))) = true then some false else if r.holds.any (fun s => !decide (0 <= s /\ s < (p.signals.length : Int))) = true then some false else some b := by
   refine GB (l := r.zone) _ false _ ?_ fun i e he => ?_
   .simp only [EZ, BL, cond_false]
    rw [l2]
   have := A7 he
   simp only [EZ, A3 he, cond_true, AX, he, Option.bind_some, e7, Ul r (show r.steps.length < 1000000 by omega), AP (show i < 1000000000 by omega)]
   by_cases c1 : e < 0
   .have c3 : ¬ (0 <= e /\ e < (p.elems.length : Int) /\ e ∉ r.steps.map (·.elem)) := by omega
    rw [decide_eq_true c1, decide_eq_false c3]; rfl
   rw [decide_eq_false c1]
   by_cases c2 : (p.elems.length : Int) <= e
   .have c3 : ¬ (0 <= e /\ e < (p.elems.length : Int) /\ e ∉ r.steps.map (·.elem)) := by omega
    rw [decide_eq_true c2, decide_eq_false c3]; rfl
   rw [decide_eq_false c2]
   by_cases c4 : e ∈ r.steps.map (·.elem)
   .have c3 : ¬ (0 <= e /\ e < (p.elems.length : Int) /\ e ∉ r.steps.map (·.elem)) := fun h => h.2.2 c4
    rw [decide_eq_true c4, decide_eq_false c3]; rfl
   have c3 : (0 <= e /\ e < (p.elems.length : Int) /\ e ∉ r.steps.map (·.elem)) := ⟨by omega, by omega, c4⟩
   rw [decide_eq_false c4, decide_eq_true c3]; rfl
  rw [l1]
  by_cases c1 : r.zone.any (fun e => !decide (0 <= e /\ e < (p.elems.length : Int) /\ e ∉ r.steps.map (·.elem))) = true
  .rw [if_pos c1]
   refine ⟨false, rfl, fun h => (by cases h), fun h => ?_⟩
   obtain ⟨e, he, hb⟩ := List.any_eq_true.1 c1
   have := h.zone e he
   simp only [Bool.not_eq_true', decide_eq_false_iff_not] at hb
   exact absurd this hb
  rw [if_neg c1]
  by_cases c2 : r.holds.any (fun s => !decide (0 <= s /\ s < (p.signals.length : Int))) = true
  .rw [if_pos c2]
   refine ⟨false, rfl, fun h => (by cases h), fun h => ?_⟩
   obtain ⟨e, he, hb⟩ := List.any_eq_true.1 c2
   have := h.hold e he
   simp only [Bool.not_eq_true', decide_eq_false_iff_not] at hb
   exact absurd this hb
  rw [if_neg c2]
  refine ⟨b, rfl, fun h => ⟨e3, e4, fun e he => ?_, fun s hs => ?_, e10.1 h⟩, fun h => e10.2 h.kept⟩
  .refine Decidable.byContradiction fun hb => c1 (List.any_eq_true.2 ⟨e, he, ?_⟩)
   simp only [Bool.not_eq_true', decide_eq_false_iff_not]; exact hb
  refine Decidable.byContradiction fun hb => c2 (List.any_eq_true.2 ⟨s, hs, ?_⟩)
  simp only [Bool.not_eq_true', decide_eq_false_iff_not]; exact hb
 rw [e2]
 exact ⟨false, rfl, fun h => (by cases h), fun h => absurd ⟨h.cons, h.guard⟩ e3⟩
def NC (a b : List AJ) : Bool := a.any fun m => b.any fun k => m.elem == k.elem && m.pos != k.pos
theorem Va {a b : List AJ} : NC a b = true ↔ ∃ m ∈ a, ∃ k ∈ b, m.elem = k.elem /\ m.pos ≠ k.pos := by
 unfold NC
 simp only [List.any_eq_true, Bool.and_eq_true, beq_iff_eq, bne_iff_ne]
theorem PF {l : List AJ} : NC l l = false ↔ Hq l := by
 rw [<- Bool.not_eq_true, Va]
 constructor
 .intro h a ha b hb e
  exact Decidable.byContradiction fun q => h ⟨a, ha, b, hb, e, q⟩
 rintro h ⟨a, ha, b, hb, e, q⟩
 exact q (h a ha b hb e)
theorem W7 (a b : List AJ) (ha : a.length < 1000000) (hb : b.length < 1000000) : HL a b = some (NC a b) := by
 unfold HL NC
 have l1 := GB (l := a) (step := FQ a b) (fun m => b.any fun k => m.elem == k.elem && m.pos != k.pos) true (some false) (by simp only [FQ, BL, cond_false]; rfl) (fun i m hm => by
  have hi := A7 hm
  have l2 := GB (l := b) (step := FP a b (i : Int)) (fun k => m.elem == k.elem && m.pos != k.pos) (.inr true) (some (.inl ((i + 1 : Nat) : Int))) (by simp only [FP, BL, cond_false, AP (show i < 1000000000 by omega)]; rfl) (fun j k hk => by
   have := A7 hk
   simp only [FP, A3 hk, cond_true, AX, hk, hm, Option.bind_some, AP (show j < 1000000000 by omega)]
   cases (m.elem == k.elem) <;> cases (m.pos != k.pos) <;> rfl)
  simp only [FQ, A3 hm, cond_true, l2])
 rw [l1]
 cases (a.any fun m => b.any fun k => m.elem == k.elem && m.pos != k.pos) <;> rfl
theorem AAH (r : AW) (h2 : r.needs.length <= 1000) (h3 : r.guards.length <= 1000) : Kj r = some (r.needs ++ r.guards) := by
 unfold Kj
 simp only [A8 (show ([] : List AJ).length + r.needs.length <= 4294967296 by simp; omega), List.nil_append, Option.bind_some, A8 (show r.needs.length + r.guards.length <= 4294967296 by omega)]
theorem Zg (nl : List AJ) (hl : nl.length < 1000000) (x : AF) : AO (DU nl x) (1, []) = some ((if (⟨x.elem, 2⟩ : AJ) ∈ nl then [] else [1]) ++ if (⟨x.elem, 1⟩ : AJ) ∈ nl then [] else [2]) := by
 have w1 : AQ (3 - 1) = 2 := by decide
 have w2 : AQ (3 - 2) = 1 := by decide
 have w3 : AQ (1 + 1) = 2 := by decide
 have w4 : AQ (2 + 1) = 3 := by decide
 have a1 : ∀ o : List Int, o.length <= 2 -> ∀ y, BE o [y] = some (o ++ [y]) := fun o ho y => A8 (by simp; omega)
 have s1 : ∀ o : List Int, o.length <= 1 -> DU nl x (1, o) = some (.inl (2, o ++ if (⟨x.elem, 2⟩ : AJ) ∈ nl then [] else [1])) := fun o ho => by
  simp only [DU, show decide ((1 : Int) <= 2) = true from rfl, cond_true, w1, w3, Jr nl hl, Option.bind_some, a1 o (by omega)]
  by_cases c : (⟨x.elem, 2⟩ : AJ) ∈ nl <;> simp [c]
 have s2 : ∀ o : List Int, o.length <= 1 -> DU nl x (2, o) = some (.inl (3, o ++ if (⟨x.elem, 1⟩ : AJ) ∈ nl then [] else [2])) := fun o ho => by
  simp only [DU, show decide ((2 : Int) <= 2) = true from rfl, cond_true, w2, w4, Jr nl hl, Option.bind_some, a1 o (by omega)]
  by_cases c : (⟨x.elem, 1⟩ : AJ) ∈ nl <;> simp [c]
 have s3 : ∀ o : List Int, DU nl x (3, o) = some (.inr o) := fun o => by
  simp only [DU, show decide ((3 : Int) <= 2) = false from rfl, cond_false]
 rw [Bq (s1 [] (by simp)), List.nil_append, Bq (s2 _ (by split <;> simp)), Be (s3 _)]
theorem Xv {nl : List AJ} (hc : Hq nl) (hp : ∀ m ∈ nl, m.pos = 1 \/ m.pos = 2) {x : AF} (hx : CQ p x = true) (k2 : Ah p x.elem = 2) (f : 0 < x.fin) : Cr p (CS nl) x = if (⟨x.elem, AQ (3 - x.fin)⟩ : AJ) ∈ nl then [] else [0] := by
 obtain ⟨f1, f2, f3⟩ := Da hx
 have h' : CQ p ⟨x.elem, x.fin⟩ = true := hx
 rw [k2] at f3
 simp [CH] at f3
 have hw : AQ (3 - x.fin) = 3 - x.fin := by rw [CL] <;> omega
 have ho : BS p x.elem x.fin = [⟨0, x.fin⟩] := by
  unfold BS
  rw [h', if_pos rfl, if_neg (by omega), if_neg (by omega), if_pos k2, if_neg (by omega)]
 unfold Cr LG
 rw [ho, hw]
 simp only [List.flatMap_cons, List.flatMap_nil, List.append_nil]
 cases hy : CS nl x.elem with
 | none =>
  have : (⟨x.elem, 3 - x.fin⟩ : AJ) ∉ nl := fun h => MO.1 hy _ h rfl
  simp [this]
 | some q =>
  have hm := N0 hy
  have hq := hp _ hm
  simp only at hq
  by_cases c : q = x.fin
  .subst c
   have : (⟨x.elem, 3 - x.fin⟩ : AJ) ∉ nl := fun h => by
    have := hc _ h _ hm rfl
    simp only at this
    omega
   simp [this]
  have e : q = 3 - x.fin := by omega
  rw [e] at hm
  have : ¬ (x.fin = 0 \/ (some q = none) \/ some q = some x.fin) := by simp; omega
  rw [if_neg this, if_pos hm]
theorem Xw {nl : List AJ} (hc : Hq nl) (hp : ∀ m ∈ nl, m.pos = 1 \/ m.pos = 2) {x : AF} (hx : CQ p x = true) (k2 : Ah p x.elem = 2) (f : x.fin = 0) : Cr p (CS nl) x = ((if (⟨x.elem, 2⟩ : AJ) ∈ nl then [] else [1]) ++ if (⟨x.elem, 1⟩ : AJ) ∈ nl then [] else [2]) /\ Cr p (CS nl) x ≠ [] := by
 have h' : CQ p ⟨x.elem, x.fin⟩ = true := hx
 have ho : BS p x.elem x.fin = [⟨1, 1⟩, ⟨2, 2⟩] := by
  unfold BS
  rw [h', if_pos rfl, if_neg (by omega), if_neg (by omega), if_pos k2, if_pos f]
 unfold Cr LG
 rw [ho]
 simp only [List.flatMap_cons, List.flatMap_nil, List.append_nil]
 cases hy : CS nl x.elem with
 | none =>
  have n1 : (⟨x.elem, 1⟩ : AJ) ∉ nl := fun h => MO.1 hy _ h rfl
  have n2 : (⟨x.elem, 2⟩ : AJ) ∉ nl := fun h => MO.1 hy _ h rfl
  simp [n1, n2]
 | some q =>
  have hm := N0 hy
  have hq := hp _ hm
  simp only at hq
  rcases hq with rfl | rfl
  .have n2 : (⟨x.elem, 2⟩ : AJ) ∉ nl := fun h => by
    have := hc _ h _ hm rfl
    simp at this
   simp [n2, hm]
  have n1 : (⟨x.elem, 1⟩ : AJ) ∉ nl := fun h => by
   have := hc _ h _ hm rfl
   simp at this
  simp [n1, hm]
theorem W8 {lay : Int -> Option Int} {x : AF} (hx : CQ p x = true) (k2 : Ah p x.elem ≠ 2) (k4 : Ah p x.elem ≠ 4) : ∃ o, Ba p x.elem x.fin 0 = some o /\ Cr p lay x = [o] := by
 obtain ⟨o, ho⟩ := PB hx k2 k4
 refine ⟨o, ho, ?_⟩
 obtain ⟨w, hw, hwo, hp⟩ := Lz ho
 have h0 : w.pos = 0 := by rcases hp with h | h <;> exact h
 rcases RO p x.elem x.fin with e | ⟨v, e⟩ | e
 .rw [e] at hw; cases hw
 .unfold Cr LG
  rw [e] at hw ⊢
  simp at hw
  subst hw
  simp [h0, hwo]
 exfalso
 have : (⟨1, 1⟩ : BO) ∈ BS p x.elem x.fin := by rw [e]; simp
 exact k2 ((Km this).2.2.2.2.2 (by simp)).1
theorem SG (hv : CT p) (x : AF) (met : List AF) (l : List Int) (hl : l.length <= 10) (q : List AF) (hq : q.length <= 1000) : AO (Fj p x met l) (0, q) = some (.inl (met, q ++ HV p x.elem l)) := by
 have hj : p.joins.length < 1000000 := by have := hv.nj; omega
 unfold HV
 exact IH 1000 (l := l) (fun o => match As p ⟨x.elem, o⟩ with | some y => [y] | none => []) (fun o => by split <;> simp) (by omega) (step := Fj p x met l) (fin := fun o => (Sum.inl (met, o) : (List AF × List AF) ⊕ Bool)) (fun o => by simp only [Fj, BL, cond_false]) (fun i a o ha hb => by
  have := A7 ha
  simp only [Fj, A3 ha, cond_true, AX, ha, Option.bind_some, BP p hj, AP (show i < 1000000000 by omega)]
  cases As p ⟨x.elem, a⟩ with
  | none => simp
  | some y => simp [A8 (show o.length + [y].length <= 4294967296 by simp; omega)]) q hq
theorem W9 (hv : CT p) (h1 : r.steps.length <= 12) (h2 : r.zone.length <= 1000) (h3 : r.holds.length <= 1000) {nl : List AJ} (hl : nl.length <= 3000) (hc : Hq nl) (hp : ∀ m ∈ nl, m.pos = 1 \/ m.pos = 2) {x : AF} (hx : CQ p x = true) (q : List AF) (hq : q.length <= 1000) (met : List AF) (hm : met.length <= 1000) :
  DW p r nl (met, x :: q) = some (if x ∈ met \/ x.elem ∈ r.steps.map (·.elem) then .inl (met, q) else if EN p r.holds x then .inl (met ++ [x], q) else if EO p (CS nl) r.zone x then .inl (met ++ [x], q ++ HV p x.elem (Cr p (CS nl) x)) else .inr false) := by
 have hs : p.signals.length < 1000000 := by have := hv.few.signals; omega
 have d : decide ((0 : Int) < (((x :: q).length : Nat) : Int)) = true := by simp
 have e0 : Ak (x :: q) 0 = some x := rfl
 have eb : (bif decide (x ∈ met) then some true else (Gi r x.elem).bind fun y => some y : Option Bool) = some (decide (x ∈ met \/ x.elem ∈ r.steps.map (·.elem))) := by
  rw [SC r (show r.steps.length < 1000000 by omega)]
  by_cases c : x ∈ met
  .rw [decide_eq_true c, decide_eq_true (Or.inl c)]; rfl
  rw [decide_eq_false c]
  by_cases c2 : x.elem ∈ r.steps.map (·.elem)
  .rw [decide_eq_true c2, decide_eq_true (Or.inr c2)]; rfl
  rw [decide_eq_false c2, decide_eq_false (fun h => h.elim c c2)]; rfl
 have es : (bif decide (0 <= Ay p x) then bif !p.hard then (C0 r.holds (Ay p x)).bind fun y => some y else some false else some false : Option Bool) = some (decide (EN p r.holds x)) := by
  unfold EN
  rw [LA r.holds (show r.holds.length < 1000000 by omega)]
  by_cases c : 0 <= Ay p x
  .by_cases hh : p.hard = true
   .simp [hh, c]
   have hf : p.hard = false := by simpa using hh
   simp [hf, c]
  simp [c]
 unfold DW
 simp only [d, cond_true, e0, Un, Option.bind_some, RR met (show met.length < 1000000 by omega)]
 rw [eb]
 simp only [Option.bind_some]
 by_cases c : x ∈ met \/ x.elem ∈ r.steps.map (·.elem)
 .rw [if_pos c, decide_eq_true c]; rfl
 rw [if_neg c, decide_eq_false c]
 simp only [cond_false, A8 (show met.length + [x].length <= 4294967296 by simp; omega), Option.bind_some, C8 p hs]
 rw [es]
 simp only [Option.bind_some]
 by_cases c2 : EN p r.holds x
 .rw [if_pos c2, decide_eq_true c2]; rfl
 rw [if_neg c2, decide_eq_false c2]
 simp only [cond_false, FW, Option.bind_some, Jr nl (show nl.length < 1000000 by omega), LA r.zone (show r.zone.length < 1000000 by omega), RS]
 have i0 : Ak ([0] : List Int) 0 = some 0 := rfl
 have s0 : ∀ o : Int, BF ([0] : List Int) 0 o = [o] := fun o => rfl
 by_cases k4 : Ah p x.elem = 4
 .have : ¬ EO p (CS nl) r.zone x := fun h => h.1 k4
  rw [if_neg this, k4]; rfl
 have b4 : (Ah p x.elem == 4) = false := beq_eq_false_iff_ne.2 k4
 by_cases k2 : Ah p x.elem = 2
 .have b2 : (Ah p x.elem == 2) = true := by simp [k2]
  have b2' : (Ah p x.elem != 2) = false := by simp [k2]
  by_cases f : 0 < x.fin
  .have hb := Xv hc hp hx k2 f
   have f0 : (x.fin == 0) = false := by simp; omega
   simp only [b2, b2', b4, f, f0, decide_true, cond_true, cond_false, Option.bind_some]
   by_cases hm2 : (⟨x.elem, AQ (3 - x.fin)⟩ : AJ) ∈ nl
   .rw [if_pos hm2] at hb
    have hg : EO p (CS nl) r.zone x := ⟨k4, fun h => absurd hb h⟩
    rw [if_pos hg, decide_eq_true hm2, hb]
    simp [HV]
   rw [if_neg hm2] at hb
   rw [decide_eq_false hm2]
   simp only [cond_false]
   by_cases hz : x.elem ∈ r.zone
   .have hg : EO p (CS nl) r.zone x := ⟨k4, fun _ => hz⟩
    rw [if_pos hg, decide_eq_true hz, hb]
    simp only [Bool.not_true, cond_false]
    exact SG hv x _ [0] (by simp) q hq
   have hg : ¬ EO p (CS nl) r.zone x := fun h => hz (h.2 (by rw [hb]; simp))
   rw [if_neg hg, decide_eq_false hz]; rfl
  obtain ⟨f1, f2, f3⟩ := Da hx
  have f0 : x.fin = 0 := by omega
  obtain ⟨hb, hne⟩ := Xw hc hp hx k2 f0
  have f0' : (x.fin == 0) = true := by simp [f0]
  simp only [b2, b2', b4, f, f0', decide_false, cond_true, cond_false, Option.bind_some]
  by_cases hz : x.elem ∈ r.zone
  .have hg : EO p (CS nl) r.zone x := ⟨k4, fun _ => hz⟩
   rw [if_pos hg, decide_eq_true hz, hb]
   simp only [Bool.not_true, cond_false]
   rw [Zg nl (by omega) x]
   simp only [Option.bind_some]
   refine SG hv x _ _ ?_ q hq
   simp only [List.length_append]
   split <;> split <;> simp
  have hg : ¬ EO p (CS nl) r.zone x := fun h => hz (h.2 hne)
  rw [if_neg hg, decide_eq_false hz]; rfl
 have b2 : (Ah p x.elem == 2) = false := beq_eq_false_iff_ne.2 k2
 have b2' : (Ah p x.elem != 2) = true := by simp [k2]
 obtain ⟨o, ho, hb⟩ := W8 (lay := CS nl) hx k2 k4
 simp only [b2, b2', b4, cond_true, cond_false, Option.bind_some, ho, i0, Option.getD_some, s0]
 by_cases hz : x.elem ∈ r.zone
 .have hg : EO p (CS nl) r.zone x := ⟨k4, fun _ => hz⟩
  rw [if_pos hg, decide_eq_true hz, hb]
  simp only [Bool.not_true, cond_false]
  exact SG hv x _ [o] (by simp) q hq
 have hg : ¬ EO p (CS nl) r.zone x := fun h => hz (h.2 (by rw [hb]; simp))
 rw [if_neg hg, decide_eq_false hz]; rfl
end
end Go.E
/- Plain Lean: whether a road is guarded, by the program and by the document (law ProofGuards); what is guarded keeps (law ProofKeeps). No condition. -/
namespace Go.E
open Go
section
variable {p : AM} {n : BI} {r : AW}
def Y7 (p : AM) (met : List AF) : Nat := ((Bj p).filter fun x => !decide (x ∈ met)).length
theorem AAI {met : List AF} {x : AF} (hx : x ∈ Bj p) (hm : x ∉ met) : Y7 p (met ++ [x]) + 1 <= Y7 p met := by
 refine (KU (P := fun y => !decide (y ∈ met)) (P' := fun y => !decide (y ∈ met ++ [x])) (fun z hz => ?_) (Bj p)).2 x hx (by simp [hm]) (by simp)
 simp only [Bool.not_eq_true', decide_eq_false_iff_not, List.mem_append, not_or] at hz ⊢
 exact hz.1
theorem Vb (hv : CT p) (h1 : r.steps.length <= 12) (h2 : r.zone.length <= 1000) (h3 : r.holds.length <= 1000) {nl : List AJ} (hl : nl.length <= 3000) (hc : Hq nl) (hp : ∀ m ∈ nl, m.pos = 1 \/ m.pos = 2) :
  ∃ b, AO (DW p r nl) ([], Cf p (CU p r.steps)) = some b /\ (b = true ↔ MN p (CS nl) r.holds r.zone r.steps) := by
 have hj := hv.nj
 have hpl := G8 (p := p) r.steps
 have h4 : (Bj p).length = 2 * p.joins.length := Ee _
 refine ED (step := DW p r nl) (Post := fun b => b = true ↔ MN p (CS nl) r.holds r.zone r.steps)
  (fun k s => GI p (CS nl) r.holds r.zone r.steps (fun y => y ∈ s.1 \/ y.elem ∈ r.steps.map (·.elem)) s.2 /\ k + s.2.length + 3 * Y7 p s.1 <= 700 /\ s.1.length <= k) 700 ?_ ?_
 .rintro k ⟨met, q⟩ ⟨hi, hms, hmet⟩
  dsimp only at hi hms hmet
  cases q with
  | nil => exact .inl ⟨true, by simp [DW], fun _ => hi.done, fun _ => rfl⟩
  | cons x q =>
   simp only [List.length_cons] at hms
   have hx := (hi.arr x (by simp)).in_ports
   have hhas : CQ p x = true := by
    obtain ⟨i, hi⟩ := List.mem_iff_getElem?.1 hx
    exact hv.join.has i x hi
   rw [W9 hv h1 h2 h3 hl hc hp hhas q (by omega) met (by omega)]
   by_cases c : x ∈ met \/ x.elem ∈ r.steps.map (·.elem)
   .rw [if_pos c]
    refine .inr ⟨by omega, _, rfl, hi.next (fun _ h => h) c (fun _ h => .inl h) (fun _ h => h) (fun y hy => hi.arr y (by simp [hy])) fun q => absurd c q, by dsimp only; omega, by dsimp only; omega⟩
   rw [if_neg c]
   have c1 : x.elem ∉ r.steps.map (·.elem) := fun h => c (.inr h)
   have c3 : x ∉ met := fun h => c (.inl h)
   have hlt := AAI hx c3
   have hV : ∀ y, (y ∈ met ++ [x] \/ y.elem ∈ r.steps.map (·.elem)) ↔ (y ∈ met \/ y.elem ∈ r.steps.map (·.elem)) \/ y = x := fun y => by
    simp only [List.mem_append, List.mem_cons, List.not_mem_nil, or_false]
    constructor
    .rintro ((h | h) | h)
     .exact .inl (.inl h)
     .exact .inr h
     exact .inl (.inr h)
    rintro ((h | h) | h)
    .exact .inl (.inl h)
    .exact .inr h
    exact .inl (.inr h)
   by_cases cs : EN p r.holds x
   .rw [if_pos cs]
    refine .inr ⟨by omega, _, rfl, hi.next (fun y hy => (hV y).2 (.inl hy)) ((hV x).2 (.inr rfl)) (fun y hy => (hV y).1 hy) (fun _ h => h) (fun y hy => hi.arr y (by simp [hy])) fun _ _ h => absurd cs h, by dsimp only; omega, by simp only [List.length_append, List.length_cons, List.length_nil]; omega⟩
   rw [if_neg cs]
   by_cases hg : EO p (CS nl) r.zone x
   .rw [if_pos hg]
    have hb := Nz p (CS nl) x
    have hnl := RW (p := p) x.elem (Cr p (CS nl) x)
    exact .inr ⟨by omega, _, rfl, hi.go c1 cs hg hV, by simp only [List.length_append]; omega, by simp only [List.length_append, List.length_cons, List.length_nil]; omega⟩
   rw [if_neg hg]
   exact .inl ⟨false, rfl, fun h => (by cases h), fun h => absurd h (hi.bad c1 cs hg)⟩
 refine ⟨⟨fun y hy => ?_, fun x hx h1 h2 => ?_, fun x y hx hy => .inl (S2 hx hy)⟩, ?_, Nat.zero_le _⟩
 .obtain ⟨x, hx, hy⟩ := P0 r.steps y hy
  exact .init hx hy
 .rcases hx with h | h
  .cases h
  exact absurd h h1
 have h3 : Y7 p [] <= (Bj p).length := List.length_filter_le _ _
 simp only [Cf, List.length_map]
 omega
theorem Zh (hv : CT p) (h1 : r.steps.length <= 12) (nl : List AJ) : G2 p r nl = AO (DW p r nl) ([], Cf p (CU p r.steps)) := by
 have hj : p.joins.length < 1000000 := by have := hv.nj; omega
 have hp := G8 (p := p) r.steps
 unfold G2
 rw [Sx hv r (by omega)]
 exact RY (L := CU p r.steps) (by omega) (fin := fun q => AO (DW p r nl) ([], q)) (fun q => by simp only [Iz, BL, cond_false]) (fun i x q hx hq => by
  have := A7 hx
  simp only [Iz, A3 hx, cond_true, AX, hx, Option.bind_some, BP p hj, A8 (show q.length + [(As p x).getD (⟨0, 0⟩ : AF)].length <= 4294967296 by simp; omega), AP (show i < 1000000000 by omega)])
theorem S5 (hv : CT p) (e : Int) : Ah p e = 0 ↔ ¬ (0 <= e /\ e < (p.elems.length : Int)) := by
 constructor
 .intro h hr
  obtain ⟨a, ha⟩ := Kl hr.1 hr.2
  have hk : Ah p e = a.kind := by unfold Ah; rw [ha]; rfl
  obtain ⟨h1, _⟩ := Ur ha
  have := (hv.args.elem _ a h1).ends
  rw [<- hk, h] at this
  exact this rfl
 intro h
 unfold Ah
 rw [Es (by omega)]
 rfl
theorem Ys (m : AJ) : (bif Ah p m.elem != 2 then some true else bif m.pos != 1 then some (m.pos != 2) else some false : Option Bool) = some (!decide (Kp p m)) := by
 unfold Kp
 by_cases c2 : Ah p m.elem = 2
 .have b2 : (Ah p m.elem != 2) = false := by simp [c2]
  rw [b2]
  by_cases c3 : m.pos = 1
  .simp [c2, c3]
  have b3 : (m.pos != 1) = true := bne_iff_ne.2 c3
  rw [b3]
  by_cases c4 : m.pos = 2
  .simp [c2, c3, c4]
  have b4 : (m.pos != 2) = true := bne_iff_ne.2 c4
  rw [b4]
  simp [c2, c3, c4]
 have b2 : (Ah p m.elem != 2) = true := bne_iff_ne.2 c2
 rw [b2]
 simp [c2]
theorem SH (hv : CT p) (h1 : r.steps.length <= 12) (h2 : r.needs.length <= 1000) (h3 : r.guards.length <= 1000) (h4 : r.zone.length <= 1000) (h5 : r.holds.length <= 1000) (hnp : ∀ m ∈ r.needs, m.pos = 1 \/ m.pos = 2) : ∃ b, HN p r = some b /\ (b = true ↔ PE p r) := by
 unfold HN
 have hL : (r.needs ++ r.guards).length < 1000000 := by simp; omega
 simp only [AAH r h2 h3, Option.bind_some, W7 _ _ hL hL]
 cases hx : NC (r.needs ++ r.guards) (r.needs ++ r.guards) with
 | true =>
  refine ⟨false, rfl, fun h => (by cases h), fun h => ?_⟩
  have := PF.2 h.cons
  rw [hx] at this
  cases this
 | false =>
  have hc := PF.1 hx
  simp only [cond_false]
  have l3 : AO (D6 p r (r.needs ++ r.guards)) 0 = if r.holds.any (fun s => !decide (0 <= s /\ s < (p.signals.length : Int))) = true then some false else G2 p r (r.needs ++ r.guards) := by
   refine GB (l := r.holds) _ false _ ?_ fun i s hs => ?_
   .simp only [D6, BL, cond_false]
    cases G2 p r (r.needs ++ r.guards) <;> rfl
   have := A7 hs
   simp only [D6, A3 hs, cond_true, AX, hs, Option.bind_some, Te, AP (show i < 1000000000 by omega)]
   by_cases c : 0 <= s /\ s < (p.signals.length : Int)
   .obtain ⟨a, ha⟩ := Kl c.1 c.2
    rw [ha, decide_eq_true c]; rfl
   rw [Es (by omega), decide_eq_false c]; rfl
  have l2 : AO (D7 p r (r.needs ++ r.guards)) 0 = if r.zone.any (fun e => !decide (0 <= e /\ e < (p.elems.length : Int) /\ e ∉ r.steps.map (·.elem))) = true then some false else AO (D6 p r (r.needs ++ r.guards)) 0 := by
   refine GB (l := r.zone) _ false _ ?_ fun i e he => ?_
   .simp only [D7, BL, cond_false]
   have := A7 he
   simp only [D7, A3 he, cond_true, AX, he, Option.bind_some, FW, SC r (show r.steps.length < 1000000 by omega), AP (show i < 1000000000 by omega)]
   by_cases c1 : 0 <= e /\ e < (p.elems.length : Int)
   .have hk : (Ah p e == 0) = false := beq_eq_false_iff_ne.2 fun h => (S5 hv e).1 h c1
    rw [hk]
    by_cases c4 : e ∈ r.steps.map (·.elem)
    .have c3 : ¬ (0 <= e /\ e < (p.elems.length : Int) /\ e ∉ r.steps.map (·.elem)) := fun h => h.2.2 c4
     rw [decide_eq_true c4, decide_eq_false c3]; rfl
    have c3 : (0 <= e /\ e < (p.elems.length : Int) /\ e ∉ r.steps.map (·.elem)) := ⟨c1.1, c1.2, c4⟩
    rw [decide_eq_false c4, decide_eq_true c3]; rfl
   have hk : (Ah p e == 0) = true := by simp [(S5 hv e).2 c1]
   have c3 : ¬ (0 <= e /\ e < (p.elems.length : Int) /\ e ∉ r.steps.map (·.elem)) := fun h => c1 ⟨h.1, h.2.1⟩
   rw [hk, decide_eq_false c3]; rfl
  have l1 : AO (FR p r (r.needs ++ r.guards)) 0 = if r.guards.any (fun m => !decide (Kp p m)) = true then some false else AO (D7 p r (r.needs ++ r.guards)) 0 := by
   refine GB (l := r.guards) _ false _ ?_ fun i m hm => ?_
   .simp only [FR, BL, cond_false]
   have := A7 hm
   simp only [FR, A3 hm, cond_true, AX, hm, Option.bind_some, FW, AP (show i < 1000000000 by omega)]
   rw [Ys]
   simp only [Option.bind_some]
   cases h : decide (Kp p m) <;> rfl
  rw [l1]
  by_cases c0 : r.guards.any (fun m => !decide (Kp p m)) = true
  .rw [if_pos c0]
   refine ⟨false, rfl, fun h => (by cases h), fun h => ?_⟩
   obtain ⟨m, hm, hb⟩ := List.any_eq_true.1 c0
   have := h.guard m hm
   simp only [Bool.not_eq_true', decide_eq_false_iff_not] at hb
   exact absurd this hb
  rw [if_neg c0, l2]
  have hg : ∀ m ∈ r.guards, Kp p m := fun m hm => Decidable.byContradiction fun hb => c0 (List.any_eq_true.2 ⟨m, hm, by simp only [Bool.not_eq_true', decide_eq_false_iff_not]; exact hb⟩)
  by_cases c1 : r.zone.any (fun e => !decide (0 <= e /\ e < (p.elems.length : Int) /\ e ∉ r.steps.map (·.elem))) = true
  .rw [if_pos c1]
   refine ⟨false, rfl, fun h => (by cases h), fun h => ?_⟩
   obtain ⟨e, he, hb⟩ := List.any_eq_true.1 c1
   have := h.zone e he
   simp only [Bool.not_eq_true', decide_eq_false_iff_not] at hb
   exact absurd this hb
  rw [if_neg c1, l3]
  by_cases c2 : r.holds.any (fun s => !decide (0 <= s /\ s < (p.signals.length : Int))) = true
  .rw [if_pos c2]
   refine ⟨false, rfl, fun h => (by cases h), fun h => ?_⟩
   obtain ⟨e, he, hb⟩ := List.any_eq_true.1 c2
   have := h.hold e he
   simp only [Bool.not_eq_true', decide_eq_false_iff_not] at hb
   exact absurd this hb
  rw [if_neg c2]
  obtain ⟨b, e1, e2⟩ := Vb hv h1 h4 h5 (nl := r.needs ++ r.guards) (by simp; omega) hc (fun m hm => by
   rcases List.mem_append.1 hm with hm | hm
   .exact hnp m hm
   exact (hg m hm).2)
  refine ⟨b, by rw [Zh hv h1, e1], fun h => ⟨hc, hg, fun e he => ?_, fun s hs => ?_, e2.1 h⟩, fun h => e2.2 h.kept⟩
  .exact Decidable.byContradiction fun hb => c1 (List.any_eq_true.2 ⟨e, he, by simp only [Bool.not_eq_true', decide_eq_false_iff_not]; exact hb⟩)
  exact Decidable.byContradiction fun hb => c2 (List.any_eq_true.2 ⟨s, hs, by simp only [Bool.not_eq_true', decide_eq_false_iff_not]; exact hb⟩)
theorem PG {r : AW} (h : JM p r = true) : (∀ m ∈ r.needs, m.elem ∈ r.steps.map (·.elem) /\ Ah p m.elem = 2 /\ (m.pos = 1 \/ m.pos = 2)) /\ r.needs.Pairwise (fun a b => a.elem ≠ b.elem) /\ r.steps.length <= 12 := by
 obtain ⟨sg, nd, l, h1, h2, h3, h4, h5, h6, h7⟩ := O6 h
 have := O5 (by simp) (by simp) h4
 rw [h7]
 exact ⟨fun m hm => by simpa using this.1 m hm, this.2.1, h3⟩
end
end Go.E
/- Plain Lean: what is wrong first with a chart of a valid plan: the program's answer and the document's are one (L1). No condition. -/
namespace Go.E
open Go
def C6 {α : Type} (bad : Nat -> α -> Bool) : Nat -> List α -> Option Nat
 | _, [] => none
 | i, a :: r => if bad i a = true then some i else C6 bad (i + 1) r
def Jt {β : Type} (o : Option Nat) (x : Nat -> β) (fin : Option β) : Option β := match o with
 | some i => some (x i)
 | none => fin
theorem EP {α β : Type} {l : List α} {step : Int -> Option (Int ⊕ β)} (bad : Nat -> α -> Bool) (x : Nat -> β) (fin : Option β) (h0 : step (l.length : Int) = fin.map .inr)
  (h1 : ∀ (i : Nat) a, l[i]? = some a -> step (i : Int) = if bad i a = true then some (.inr (x i)) else some (.inl ((i + 1 : Nat) : Int))) : AO step 0 = Jt (C6 bad 0 l) x fin := by
 refine IE (γ := Unit) l (fun i _ => (i : Int)) (fun i _ r => Jt (C6 bad i r) x fin) (fun _ => ?_) (fun i c a r ha hi => ?_) ()
 .simpa [C6, Jt] using h0
 rw [h1 i a ha]
 by_cases c : bad i a = true
 .left; rw [if_pos c]; unfold C6; rw [if_pos c]; rfl
 right; rw [if_neg c]; exact ⟨(), rfl, by show Jt (C6 bad i (a :: r)) x fin = _; rw [C6, if_neg c]⟩
theorem Ml {α : Type} {bad : Nat -> α -> Bool} : ∀ (l : List α) (i : Nat), C6 bad i l = none ↔ ∀ (k : Nat) a, l[k]? = some a -> bad (i + k) a = false
 | [], _ => by simp [C6]
 | a :: r, i => by
  unfold C6
  by_cases c : bad i a = true
  .rw [if_pos c]
   constructor
   .intro h; cases h
   intro h
   have := h 0 a rfl
   rw [Nat.add_zero, c] at this
   cases this
  rw [if_neg c, Ml r (i + 1)]
  constructor
  .intro h k b hb
   cases k with
   | zero => simp at hb; subst hb; simpa using c
   | succ k =>
    have := h k b (by simpa using hb)
    rw [show i + (k + 1) = i + 1 + k by omega]; exact this
  intro h k b hb
  have := h (k + 1) b (by simpa using hb)
  rw [show i + 1 + k = i + (k + 1) by omega]; exact this
def E3 (l : List AW) (st : List AV) : Bool := l.any fun x => decide (x.steps = st)
theorem Us {l : List AW} {st : List AV} : E3 l st = true ↔ ∃ x ∈ l, x.steps = st := by
 unfold E3; simp only [List.any_eq_true, decide_eq_true_eq]
def N1 (p : AM) (l : List AW) (s : Nat) : Bool := (JL p (s : Int)).any fun r => !E3 l r.steps
noncomputable def Ju (p : AM) (r : AW) : Bool := @decide (PE p r) (Classical.propDecidable _)
theorem RZ {p : AM} {r : AW} : Ju p r = true ↔ PE p r := by unfold Ju; exact @decide_eq_true_iff _ (Classical.propDecidable _)
noncomputable def Ut (n : BI) (r : AW) : Bool := ((Ey n r).map (·.bare)).getD false
noncomputable def L1 (p : AM) (n : BI) (l : List AW) : Option (Int × Int) :=
 if 64 < l.length then some (2, -1) else
 Jt (C6 (fun _ r => !JM p r) 0 l) (fun i => (3, (i : Int))) <|
 Jt (C6 (fun i r => E3 (l.take i) r.steps) 0 l) (fun i => (4, (i : Int))) <|
 Jt (C6 (fun s (_ : BB) => N1 p l s) 0 p.signals) (fun s => (5, (s : Int))) <|
 Jt (C6 (fun _ r => !r.bare && !Ju p r) 0 l) (fun i => (6, (i : Int))) <|
 Jt (C6 (fun _ r => r.bare != Ut n r) 0 l) (fun i => (7, (i : Int))) <| some (0, -1)
structure Ra (r : AW) : Prop where
 needs : r.needs.length <= 1000
 guards : r.guards.length <= 1000
 zone : r.zone.length <= 1000
 holds : r.holds.length <= 1000
section
variable {p : AM} {n : BI}
theorem S6 (hv : CT p) {a b : AW} (ha : JM p a = true) (hb : JM p b = true) (h : a.steps = b.steps) : a.frm = b.frm := by
 obtain ⟨s1, n1, l1, a1, a2, a3, a4, a5, a6, a7⟩ := O6 ha
 obtain ⟨s2, n2, l2, b1, b2, b3, b4, b5, b6, b7⟩ := O6 hb
 have key : ∀ (sg : BB) (st : List AV) (nd : List AJ), 1 <= st.length -> Br p sg.at_.elem (As p sg.at_) [] [] st = some nd -> ∃ q, st.head? = some q /\ As p sg.at_ = some ⟨q.elem, q.in_⟩ := fun sg st nd hl hs => by
  cases st with
  | nil => simp at hl
  | cons q r =>
   cases hx : As p sg.at_ with
   | none => rw [hx] at hs; simp [Br] at hs
   | some x =>
    rw [hx] at hs
    unfold Br at hs
    split at hs
    .cases hs
    rename_i c
    have e1 : q.elem = x.elem := Decidable.byContradiction fun h => c (.inl h)
    have e2 : q.in_ = x.fin := Decidable.byContradiction fun h => c (.inr (.inl h))
    exact ⟨q, rfl, by rw [e1, e2]⟩
 obtain ⟨q1, c1, c2⟩ := key s1 a.steps n1 a2 a4
 obtain ⟨q2, d1, d2⟩ := key s2 b.steps n2 b2 b4
 rw [h] at c1
 rw [c1] at d1
 cases d1
 have e1 := S0 hv.join c2
 have e2 := S0 hv.join d2
 rw [e1] at e2
 have e3 : s1.at_ = s2.at_ := by injection e2
 obtain ⟨f1, f2⟩ := Ur a1
 obtain ⟨g1, g2⟩ := Ur b1
 have r1 := hv.sig.reads _ _ f1
 have r2 := hv.sig.reads _ _ g1
 rw [e3, r2] at r1
 rw [f2, g2]; omega
theorem S7 (r : AW) (hr : r.steps.length <= 1000) (l : List AW) (hl : l.length < 1000000) (hb : ∀ x ∈ l, x.steps.length <= 1000) {step : Int -> Option (Int ⊕ Int)} (h0 : step (l.length : Int) = some (.inr (-1)))
  (h1 : ∀ (i : Nat) x, l[i]? = some x -> step (i : Int) = bif decide (x.steps = r.steps) then some (.inr (i : Int)) else some (.inl ((i + 1 : Nat) : Int))) : ∃ t, AO step 0 = some t /\ decide (0 <= t) = E3 l r.steps := by
 obtain ⟨t, e1, e2⟩ := IW (l := l) (f := fun x => decide (x.steps = r.steps)) hl h0 (fun i a ha => by
  rw [h1 i a ha]
  cases decide (a.steps = r.steps) <;> rfl)
 refine ⟨t, e1, ?_⟩
 rcases e2 with ⟨rfl, e2⟩ | ⟨a, e0, e2, e3⟩
 .have : E3 l r.steps = false := by
   rw [<- Bool.not_eq_true, Us]
   rintro ⟨x, hx, he⟩
   have := List.find?_eq_none.1 e2 x hx
   simp [he] at this
  rw [this]; rfl
 have : E3 l r.steps = true := Us.2 ⟨a, List.mem_of_find?_eq_some e2, by simpa using List.find?_some e2⟩
 rw [this]
 exact decide_eq_true e0
theorem Yt (l : List AW) (r : AW) (hr : r.steps.length <= 1000) (hl : l.length <= 1000) (hb : ∀ x ∈ l, x.steps.length <= 1000) : ∃ t, AO (FK l r) 0 = some t /\ decide (0 <= t) = E3 l r.steps :=
 S7 r hr l (by omega) hb (by simp only [FK, BL, cond_false]) (fun i x hx => by
  have := A7 hx
  have hxl := hb x (List.mem_of_getElem? hx)
  simp only [FK, A3 hx, cond_true, AX, hx, Option.bind_some, Hm, Ff, V2 x.steps r.steps (show x.steps.length < 1000000 by omega), AP (show i < 1000000000 by omega)])
theorem Yu (hn : CJ p n) (hs : p.signals.length <= 1000) (l : List AW) (hl : l.length <= 1000) (hb : ∀ x ∈ l, x.steps.length <= 1000) : Fg n l = Jt (C6 (fun s (_ : BB) => N1 p l s) 0 p.signals) (fun s => (s : Int)) (some (-1)) := by
 unfold Fg
 have e8 : CY n = some (p.signals.length : Int) := by unfold CY; rw [hn.plan]
 simp only [e8, Option.bind_some]
 refine EP (l := p.signals) _ _ _ (by simp only [G0, BL, cond_false]; rfl) fun s sg hsg => ?_
 have hi := A7 hsg
 have hol : (JL p (s : Int)).length <= 8192 := by have := V4 (p := p) (s : Int); exact this
 simp only [G0, A3 hsg, cond_true, Wv hn, Option.bind_some]
 have := GB (l := JL p (s : Int)) (step := FL l (s : Int) (JL p (s : Int))) (fun r => !E3 l r.steps) (.inr (s : Int)) (some (.inl ((s + 1 : Nat) : Int))) (by simp only [FL, BL, cond_false, AP (show s < 1000000000 by omega)]; rfl) (fun i r hr => by
  have := A7 hr
  obtain ⟨t, t1, t2⟩ := Yt l r (by have := Sy (List.mem_of_getElem? hr); omega) hl hb
  simp only [FL, A3 hr, cond_true, AX, hr, Option.bind_some, t1, t2, AP (show i < 1000000000 by omega)]
  cases E3 l r.steps <;> rfl)
 rw [this]
 unfold N1
 cases (JL p (s : Int)).any fun r => !E3 l r.steps <;> rfl
theorem SI (hv : CT p) (hn : Gh p = some (some n, 0)) (hN : CJ p n) (l : List AW) (hl : l.length <= 1000) (hb : ∀ r ∈ l, Ra r) : DS ⟨p, l⟩ = L1 p n l := by
 unfold DS L1
 simp only [hn, Option.bind_some, Rv, bne_self_eq_false, cond_false]
 by_cases c : 64 < l.length
 .rw [if_pos c, decide_eq_true (show (64 : Int) < (l.length : Int) by omega)]; rfl
 rw [if_neg c, decide_eq_false (show ¬ (64 : Int) < (l.length : Int) by omega)]
 simp only [cond_false]
 have l4 := EP (l := l) (step := FO ⟨p, l⟩ n) (fun _ r => !JM p r) (fun i => ((3 : Int), (i : Int))) (AO (DZ ⟨p, l⟩ n) 0) (by simp only [FO, BL, cond_false]) (fun i r hr => by
  have := A7 hr
  have hL := hb r (List.mem_of_getElem? hr)
  simp only [FO, A3 hr, cond_true, AX, hr, Option.bind_some, Ww hN r hL.needs, AP (show i < 1000000000 by omega)]
  cases JM p r <;> rfl)
 rw [l4]
 cases hF : C6 (fun _ r => !JM p r) 0 l with
 | some i => rfl
 | none =>
  have hI : ∀ r ∈ l, JM p r = true := fun r hr => by
   obtain ⟨i, hi⟩ := List.mem_iff_getElem?.1 hr
   simpa using (Ml l 0).1 hF i r hi
  have h12 : ∀ r ∈ l, r.steps.length <= 12 := fun r hr => (PG (hI r hr)).2.2
  show AO (DZ ⟨p, l⟩ n) 0 = _
  have l5 := EP (l := l) (step := DZ ⟨p, l⟩ n) (fun i r => E3 (l.take i) r.steps) (fun i => ((4 : Int), (i : Int))) ((Fg n l).bind fun y => bif decide (0 <= y) then some (5, y) else AO (D2 ⟨p, l⟩ n) 0) (by simp only [DZ, BL, cond_false]) (fun i r hr => by
   have hi := A7 hr
   have hL := h12 r (List.mem_of_getElem? hr)
   obtain ⟨t, t1, t2⟩ := S7 r (by omega) (l.take i) (by simp; omega) (fun x hx => by have := h12 x (List.mem_of_mem_take hx); omega) (step := FN r (l.take i)) (by simp only [FN, BL, cond_false]) (fun k x hx => by
    have hk := A7 hx
    have hxl := h12 x (List.mem_of_mem_take (List.mem_of_getElem? hx))
    simp only [List.length_take] at hk
    simp only [FN, A3 hx, cond_true, AX, hx, Option.bind_some, Ft, Ff, V2 x.steps r.steps (show x.steps.length < 1000000 by omega), AP (show k < 1000000000 by omega)])
   simp only [DZ, A3 hr, cond_true, AX, hr, Option.bind_some, JB l i (by omega), t1, t2, AP (show i < 1000000000 by omega)]
   cases E3 (l.take i) r.steps <;> rfl)
  rw [l5]
  refine congrArg (Jt (C6 (fun i r => E3 (l.take i) r.steps) 0 l) (fun i => ((4 : Int), (i : Int)))) ?_
  rw [Yu hN (by have := hv.ns; omega) l hl (fun x hx => by have := h12 x hx; omega)]
  cases hS : C6 (fun s (_ : BB) => N1 p l s) 0 p.signals with
  | some s =>
   simp only [Jt, Option.bind_some, decide_eq_true (show (0 : Int) <= (s : Int) by omega), cond_true]
  | none =>
   simp only [Jt, Option.bind_some, show decide ((0 : Int) <= -1) = false from rfl, cond_false]
   have l7 := EP (l := l) (step := D2 ⟨p, l⟩ n) (fun _ r => !r.bare && !Ju p r) (fun i => ((6 : Int), (i : Int))) (AO (D1 ⟨p, l⟩ n) 0) (by simp only [D2, BL, cond_false]) (fun i r hr => by
    have hi := A7 hr
    have hm := List.mem_of_getElem? hr
    have hL := hb r hm
    obtain ⟨b, b1, b2⟩ := W6 (r := r) hv hN (h12 r hm) hL.needs hL.guards hL.zone hL.holds
    have hbb : b = Ju p r := Bool.eq_iff_iff.2 (b2.trans RZ.symm)
    simp only [D2, A3 hr, cond_true, AX, hr, Option.bind_some, b1, hbb, AP (show i < 1000000000 by omega)]
    cases r.bare <;> cases Ju p r <;> rfl)
   have l8 := EP (l := l) (step := D1 ⟨p, l⟩ n) (fun _ r => r.bare != Ut n r) (fun i => ((7 : Int), (i : Int))) (some (0, -1)) (by simp only [D1, BL, cond_false]; rfl) (fun i r hr => by
    have hi := A7 hr
    have hm := List.mem_of_getElem? hr
    have hL := hb r hm
    obtain ⟨g, z, h, bb, R2, _⟩ := VZ (r := r) hv hN (h12 r hm) hL.needs
    have hfl : Ut n r = bb := by unfold Ut; rw [R2]; rfl
    simp only [D1, A3 hr, cond_true, AX, hr, Option.bind_some, R2, hfl, AP (show i < 1000000000 by omega)]
    cases r.bare <;> cases bb <;> rfl)
   rw [l7, l8]
   rfl
theorem Uu (hv : CT p) (h0 : Fx p = some 0) (hN : CJ p n) (l : List AW) (hl : l.length <= 1000) (hb : ∀ r ∈ l, Ra r) : F7 ⟨p, l⟩ = L1 p n l := by
 unfold F7 L1
 simp only [h0, Option.bind_some, bne_self_eq_false, cond_false]
 by_cases c : 64 < l.length
 .rw [if_pos c, decide_eq_true (show (64 : Int) < (l.length : Int) by omega)]; rfl
 rw [if_neg c, decide_eq_false (show ¬ (64 : Int) < (l.length : Int) by omega)]
 simp only [cond_false]
 unfold Hn
 have l1 := EP (l := l) (step := Ec ⟨p, l⟩) (fun _ r => !JM p r) (fun i => ((3 : Int), (i : Int))) (AO (Dc ⟨p, l⟩) 0) (by simp only [Ec, BL, cond_false]) (fun i r hr => by
  have := A7 hr
  have hL := hb r (List.mem_of_getElem? hr)
  simp only [Ec, A3 hr, cond_true, AX, hr, Option.bind_some, Xm hv r hL.needs, AP (show i < 1000000000 by omega)]
  cases JM p r <;> rfl)
 rw [l1]
 cases hF : C6 (fun _ r => !JM p r) 0 l with
 | some i => rfl
 | none =>
  have hI : ∀ r ∈ l, JM p r = true := fun r hr => by
   obtain ⟨i, hi⟩ := List.mem_iff_getElem?.1 hr
   simpa using (Ml l 0).1 hF i r hi
  have h12 : ∀ r ∈ l, r.steps.length <= 12 := fun r hr => (PG (hI r hr)).2.2
  have l2 := EP (l := l) (step := Dc ⟨p, l⟩) (fun i r => E3 (l.take i) r.steps) (fun i => ((4 : Int), (i : Int))) (some (0, -1)) (by simp only [Dc, BL, cond_false]; rfl) (fun i r hr => by
   have hi := A7 hr
   have hm := List.mem_of_getElem? hr
   have hlen : ((l.take i).length : Int) = (i : Int) := by rw [List.length_take]; omega
   have inner := GB (l := l.take i) (step := Eb ⟨p, l⟩ (i : Int)) (fun x => decide (x.steps = r.steps)) (.inr ((4 : Int), (i : Int))) (some (.inl ((i + 1 : Nat) : Int))) (by
     rw [hlen]
     have d : decide ((i : Int) < (i : Int)) = false := decide_eq_false (by omega)
     simp only [Eb, d, cond_false, AP (show i < 1000000000 by omega)]; rfl) (fun k x hx => by
    have hk := A7 hx
    rw [List.length_take] at hk
    have hx2 : l[k]? = some x := by rw [List.getElem?_take] at hx; rw [if_pos (by omega)] at hx; exact hx
    have hxm := List.mem_of_getElem? hx2
    have d : decide ((k : Int) < (i : Int)) = true := decide_eq_true (by omega)
    have hrs := h12 r hm
    simp only [Eb, d, cond_true, AX, hx2, hr, Option.bind_some, UZ r.steps x.steps (show r.steps.length < 1000000 by omega), AP (show k < 1000000000 by omega)]
    by_cases e : x.steps = r.steps
    .have hfrm := S6 hv (hI x hxm) (hI r hm) e
     simp [hfrm, e]
    have e' : ¬ r.steps = x.steps := fun h => e h.symm
    cases (r.frm == x.frm) <;> simp [e, e'])
   simp only [Dc, A3 hr, cond_true]
   rw [inner]
   unfold E3
   cases (l.take i).any fun x => decide (x.steps = r.steps) <;> rfl)
  simp only [Jt]
  rw [l2]
  cases hT : C6 (fun i r => E3 (l.take i) r.steps) 0 l with
  | some i => rfl
  | none =>
   simp only [Jt, Option.bind_some, show decide ((0 : Int) < 0) = false from rfl, cond_false]
   have hl3 : Io ⟨p, l⟩ = Jt (C6 (fun s (_ : BB) => N1 p l s) 0 p.signals) (fun s => (s : Int)) (some (-1)) := by
    unfold Io
    refine EP (l := p.signals) _ _ _ (by simp only [IN, BL, cond_false]; rfl) fun s sg hsg => ?_
    have hi := A7 hsg
    have hol : (JL p (s : Int)).length <= 8192 := V4 (p := p) (s : Int)
    have hns := hv.ns
    simp only [IN, A3 hsg, cond_true, AAk hv.few, Option.bind_some]
    have := GB (l := JL p (s : Int)) (step := GW ⟨p, l⟩ (s : Int) (JL p (s : Int))) (fun r => !E3 l r.steps) (.inr (s : Int)) (some (.inl ((s + 1 : Nat) : Int))) (by simp only [GW, BL, cond_false, AP (show s < 1000000000 by omega)]; rfl) (fun i r hr => by
     have hi2 := A7 hr
     have hrm := List.mem_of_getElem? hr
     have hro := Uj hrm
     have hrs := Sy hrm
     have in3 : AO (E8 ⟨p, l⟩ (s : Int) (JL p (s : Int)) (i : Int)) (false, 0) = some (bif !E3 l r.steps then .inr (.inr (s : Int)) else .inl ((i + 1 : Nat) : Int)) := by
      have := IE (γ := Bool) l (fun k b => (b, (k : Int))) (fun _ b rest => some (bif !(b || E3 rest r.steps) then (Sum.inr (.inr (s : Int)) : Int ⊕ (Int ⊕ Int)) else .inl ((i + 1 : Nat) : Int))) (step := E8 ⟨p, l⟩ (s : Int) (JL p (s : Int)) (i : Int)) (fun b => by
       simp only [E8, BL, cond_false, AP (show i < 1000000000 by omega), E3, List.any_nil, Bool.or_false]
       cases b <;> rfl) (fun k b x rest hx hk => by
       right
       have hxm := List.mem_of_getElem? hx
       refine ⟨b || decide (x.steps = r.steps), ?_, ?_⟩
       .simp only [E8, A3 hx, cond_true, AX, hx, hr, Option.bind_some, UZ r.steps x.steps (show r.steps.length < 1000000 by omega), AP (show k < 1000000000 by omega)]
        cases b with
        | true => rfl
        | false =>
         by_cases e : x.steps = r.steps
         .have hfrm := S6 hv (hI x hxm) hro.1 e
          rw [hro.2.1] at hfrm
          simp [hfrm, e]
         have e' : ¬ r.steps = x.steps := fun h => e h.symm
         cases (x.frm == (s : Int)) <;> simp [e, e']
       simp only [E3, List.any_cons, Bool.or_assoc]) false
      simpa using this
     simp only [GW, A3 hr, cond_true]
     rw [in3]
     cases E3 l r.steps <;> rfl)
    rw [this]
    unfold N1
    cases (JL p (s : Int)).any fun r => !E3 l r.steps <;> rfl
   rw [hl3]
   cases hS : C6 (fun s (_ : BB) => N1 p l s) 0 p.signals with
   | some s => simp only [Jt, Option.bind_some, decide_eq_true (show (0 : Int) <= (s : Int) by omega), cond_true]
   | none =>
    simp only [Jt, Option.bind_some, show decide ((0 : Int) <= -1) = false from rfl, cond_false]
    have l7 := EP (l := l) (step := GZ ⟨p, l⟩) (fun _ r => !r.bare && !Ju p r) (fun i => ((6 : Int), (i : Int))) (AO (E9 ⟨p, l⟩) 0) (by simp only [GZ, BL, cond_false]) (fun i r hr => by
     have hi := A7 hr
     have hm := List.mem_of_getElem? hr
     have hL := hb r hm
     obtain ⟨b, b1, b2⟩ := SH (r := r) hv (h12 r hm) hL.needs hL.guards hL.zone hL.holds (fun m hmm => ((PG (hI r hm)).1 m hmm).2.2)
     have hbb : b = Ju p r := Bool.eq_iff_iff.2 (b2.trans RZ.symm)
     simp only [GZ, A3 hr, cond_true, AX, hr, Option.bind_some, b1, hbb, AP (show i < 1000000000 by omega)]
     cases r.bare <;> cases Ju p r <;> rfl)
    have l8 := EP (l := l) (step := E9 ⟨p, l⟩) (fun _ r => r.bare != Ut n r) (fun i => ((7 : Int), (i : Int))) (some (0, -1)) (by simp only [E9, BL, cond_false]; rfl) (fun i r hr => by
     have hi := A7 hr
     have hm := List.mem_of_getElem? hr
     have hL := hb r hm
     obtain ⟨R, R1, R2⟩ := Yq (r := r) hv hN (h12 r hm) hL.needs
     have hfl : Ut n r = R.bare := by unfold Ut; rw [R2]; rfl
     simp only [E9, A3 hr, cond_true, AX, hr, Option.bind_some, R1, hfl, AP (show i < 1000000000 by omega)]
     cases r.bare <;> cases R.bare <;> rfl)
    rw [l7, l8]
    rfl
end
end Go.E
/- Plain Lean: the chart of a valid plan with one thing of one road turned (law ProofTurned). No condition. -/
namespace Go.E
open Go
section
variable {p : AM} {n : BI}
theorem XA (p : AM) (n : BI) (l : List AW) : ∃ t, L1 p n l = some t := by
 unfold L1 Jt
 split
 .exact ⟨_, rfl⟩
 repeat' split
 all_goals exact ⟨_, rfl⟩
end
end Go.E
/- Plain Lean: the document's check takes each valid plan. No condition. -/
namespace Go.E
open Go
theorem El {α β : Type} {l : List α} {step : Int -> Option (Int ⊕ β)} {b : β} (h0 : step (l.length : Int) = some (.inr b)) (h1 : ∀ (i : Nat) a, l[i]? = some a -> step (i : Int) = some (.inl ((i + 1 : Nat) : Int))) : AO step 0 = some b := by
 obtain ⟨c, hc, rfl⟩ := Bd (l := l) (step := step) (Post := fun c => c = b) (fun _ _ => True) (fun _ => ⟨b, h0, rfl⟩) (fun i a ha _ => .inr ⟨h1 i a ha, trivial⟩)
 exact hc
theorem N2 (s : ByteArray) (h : HS s) : Fp s = some true := by
 have h1 := h.pos; have h2 := h.le
 unfold Fp
 obtain ⟨b, hb, rfl⟩ := K9 (s := s) (step := ET s) (Post := fun b => b = true) (fun _ _ => True) 0 (Nat.zero_le _)
  (fun _ => ⟨true, by
   have : decide ((s.size : Int) < s.size) = false := by simp
   simp only [ET, this, cond_false, decide_eq_true (show (1 : Int) <= s.size by omega), decide_eq_true (show (s.size : Int) <= 8 by omega)]; rfl, rfl⟩) (fun i c _ hc => by
   have hlt : i < s.size := by
    by_cases h : i < s.size
    .exact h
    rw [getElem?_neg s i h] at hc; cases hc
   have hd : decide ((i : Int) < s.size) = true := by simpa using hlt
   have hx : Kv s (i : Int) = some c := hc
   have hl : ((bif decide (97 <= (c.toNat : Int)) then bif decide ((c.toNat : Int) <= 122) then some true else bif decide (65 <= (c.toNat : Int)) then some (decide ((c.toNat : Int) <= 90)) else some false else bif decide (65 <= (c.toNat : Int)) then some (decide ((c.toNat : Int) <= 90)) else some false : Option Bool)) = some (EF c) := by
    unfold EF
    cases decide (97 <= (c.toNat : Int)) <;> cases decide ((c.toNat : Int) <= 122) <;> cases decide (65 <= (c.toNat : Int)) <;> cases decide ((c.toNat : Int) <= 90) <;> rfl
   refine .inr ⟨?_, trivial⟩
   simp only [ET, hd, cond_true, hx, Option.bind_some, hl, AP (show i < 1000000000 by omega)]
   rcases h.chars i c hc with h | ⟨h0, h⟩
   .simp [h]
   cases hL : EF c with
   | true => simp
   | false =>
    simp only [Lx, Bool.and_eq_true, decide_eq_true_eq] at h
    have g1 : ¬ (c.toNat : Int) < 48 := by omega
    have g2 : ¬ (57 : Int) < c.toNat := by omega
    have g3 : ((i : Int) == 0) = false := by simp only [beq_eq_false_iff_ne]; omega
    simp [g1, g2, g3])
 exact hb
theorem XB (p : AM) (hf : DF p) (ha : IV p) : H2 p = some true := by
 have q1 := hf.elems; have q2 := hf.signals; have q3 := hf.lines; have q4 := ha.one
 have h0 : ((p.elems.length : Int) == 0) = false := by rw [beq_eq_false_iff_ne]; omega
 unfold H2
 simp only [IU, ha.top, ha.brake, ha.margin, ha.throw, decide_true, Bool.and_self, Bool.not_true, cond_false, h0, Option.bind_some]
 have e3 : AO (EU p) 0 = some true := El (l := p.lines) (by simp only [EU, BL, cond_false]) (fun i a h => by
  have := A7 h; simp only [EU, A3 h, cond_true, AX, h, Option.bind_some, N2 _ (ha.line i a h), AP (show i < 1000000000 by omega)]; rfl)
 have e2 : AO (EV p) 0 = some true := El (l := p.signals) (by simp only [EV, BL, cond_false, e3]; rfl) (fun i a h => by
  have := A7 h; simp only [EV, A3 h, cond_true, AX, h, Option.bind_some, N2 _ (ha.signal i a h), AP (show i < 1000000000 by omega)]; rfl)
 refine El (l := p.elems) (by simp only [FJ, BL, cond_false, e2]; rfl) (fun i a h => ?_)
 have := A7 h
 have hk := ha.elem i a h
 simp only [FJ, A3 h, cond_true, AX, h, Option.bind_some, N2 _ hk.name, ID, IU, AP (show i < 1000000000 by omega), CE, Cn, if_neg hk.ends, Bool.not_true, cond_false]
 by_cases h4 : a.kind = 4
 .simp only [if_pos h4, hk.gate h4]; rfl
 simp only [if_neg h4, hk.len h4, decide_true]; rfl
theorem Mm (l : List ByteArray) (hl : l.length <= 1000) (h : KQ l) : Ex l = some false := by
 unfold Ex
 refine El (l := l) (by simp only [Fe, BL, cond_false]) (fun i a ha => ?_)
 have hi := A7 ha
 simp only [Fe, A3 ha, cond_true]
 refine El (l := l.take i) ?_ (fun k b hb => ?_)
 .simp only [List.length_take, Nat.min_eq_left (Nat.le_of_lt hi), Eo, Int.lt_irrefl, decide_false, cond_false, AP (show i < 1000000000 by omega)]
 have hk := A7 hb
 rw [List.length_take] at hk
 rw [List.getElem?_take, if_pos (by omega)] at hb
 have hne : (a.toList == b.toList) = false := beq_eq_false_iff_ne.2 (h i k a b (by omega) ha hb)
 simp only [Eo, decide_eq_true (show (k : Int) < (i : Int) by omega), cond_true, AX, ha, hb, Option.bind_some, hne, cond_false, AP (show k < 1000000000 by omega)]
theorem Uv (p : AM) (hf : DF p) (hj : Dx p) : F8 p = some true := by
 have q1 := hf.elems; have q2 := hf.joins
 unfold F8
 have gates : AO (Dd p) 0 = some true := El (l := p.elems) (by simp only [Dd, BL, cond_false]) (fun i e he => by
  have := A7 he
  simp only [Dd, A3 he, cond_true, AX, he, Option.bind_some, CE, BP p (by omega), C3, AP (show i < 1000000000 by omega)]
  by_cases hk : e.kind = 4
  .obtain ⟨y, hy, hyk⟩ := hj.gate i e he hk
   have : (Ah p y.elem == 4) = false := beq_eq_false_iff_ne.2 hyk
   simp [hk, hy, this, hyk, FG]
  simp [hk, FG])
 obtain ⟨b, hb, rfl⟩ := B0 (l := p.joins) (step := D9 p) (Post := fun b => b = true) (fun k c => c = (p.joins.take k).flatMap fun j => [j.a, j.b]) (fun c hc => by
   rw [List.take_length] at hc
   have hlen : c.length <= 240 := by rw [hc, Ee]; omega
   have hl : c = Bj p := hc
   refine ⟨true, ?_, rfl⟩
   simp only [D9, BL, cond_false]
   rw [El (l := c) (step := De p ((p.joins.length : Int), c)) (b := true) (by simp only [De, BL, cond_false, gates]; rfl) (fun i x hx => by
    have hi := A7 hx
    simp only [De, A3 hx, cond_true, AX, hx, Option.bind_some, Hf, hj.has i x (hl ▸ hx), Bool.not_true, cond_false]
    refine El (l := c.take i) ?_ (fun k y hy => ?_)
    .simp only [List.length_take, Nat.min_eq_left (Nat.le_of_lt hi), D8, Int.lt_irrefl, decide_false, cond_false, AP (show i < 1000000000 by omega)]
    have hk := A7 hy
    rw [List.length_take] at hk
    rw [List.getElem?_take, if_pos (by omega)] at hy
    have hne : (y == x) = false := beq_eq_false_iff_ne.2 (hj.dist i k x y (by omega) (hl ▸ hx) (hl ▸ hy))
    simp only [D8, decide_eq_true (show (k : Int) < (i : Int) by omega), cond_true, AX, hx, hy, Option.bind_some, hne, cond_false, AP (show k < 1000000000 by omega)])]
   rfl) (fun i a c ha hc => by
   subst hc; have := A7 ha
   refine .inr ⟨_, ?_, (CF ha).symm⟩
   simp only [D9, A3 ha, cond_true, AX, ha, Option.bind_some, AP (show i < 1000000000 by omega)]
   rw [A8 (by rw [Ee, List.length_take]; simp; omega)]; rfl) (c := []) rfl
 exact hb
theorem TP (p : AM) (hf : DF p) (hs : SA p) : FT p = some true := by
 have q1 := hf.elems; have q2 := hf.joins; have q3 := hf.signals
 unfold FT
 have gates : AO (DN p) 0 = some true := El (l := p.elems) (by simp only [DN, BL, cond_false]) (fun i e he => by
  have := A7 he
  simp only [DN, A3 he, cond_true, AX, he, Option.bind_some, CE, C8 p (by omega), AP (show i < 1000000000 by omega)]
  by_cases hk : e.kind = 4
  .simp only [if_pos hk, Option.bind_some, decide_eq_false (show ¬ Ay p ⟨(i : Int), 0⟩ < 0 by have := hs.gate i e he hk; omega), cond_false]
  simp only [if_neg hk, Option.bind_some, cond_false])
 refine El (l := p.signals) (by simp only [Ek, BL, cond_false, gates]; rfl) (fun i s h => ?_)
 have := A7 h
 obtain ⟨y, hy, hyk⟩ := hs.next i s h
 have hk : ((if Ah p s.at_.elem = 1 then some false else some (Ah p s.at_.elem != 4) : Option Bool)) = some false := by
  rcases hs.kind i s h with h | h <;> simp [h]
 simp only [Ek, A3 h, cond_true, AX, h, Option.bind_some, CE, Cn, C8 p (by omega), BP p (by omega), C3, Hf, AP (show i < 1000000000 by omega), hs.has i s h, Bool.not_true, cond_false, hk, hy, Option.isSome_some, Option.getD_some, if_neg hyk, hs.reads i s h, bne_self_eq_false]
theorem Uw (p : AM) (hf : DF p) (hj : Dx p) (l : List Int) (hl : l.length <= 60) (h : Jn p l) : ∃ b, F9 p l = some b /\ b.2 = true := by
 have q2 := hf.joins; have q3 := h.one
 have h0 : ¬ (l.length : Int) = 0 := by omega
 unfold F9
 simp only [CE, if_neg h0]
 obtain ⟨b, e1, e2⟩ : ∃ b, (if (l.length : Int) = 1 then some ([0], true) else AO (CD p l) ((-1), 1)) = some b /\ b.2 = true := by
  by_cases h1 : (l.length : Int) = 1
  .rw [if_pos h1]; exact ⟨_, rfl, rfl⟩
  rw [if_neg h1]
  obtain ⟨a, b, r, rfl⟩ : ∃ a b r, l = a :: b :: r := by
   match l, h0, h1 with
   | [], h0, _ => simp at h0
   | [a], _, h1 => simp at h1
   | a :: b :: r, _, _ => exact ⟨a, b, r, rfl⟩
  have i0 : Ak (a :: b :: r) 0 = some a := rfl
  have i1 : Ak (a :: b :: r) 1 = some b := rfl
  obtain ⟨hs, hc⟩ := h.chain a b r rfl
  have st : ∀ (o e : Int), 0 <= e -> CD p (a :: b :: r) (o, e) = some (.inl (if F3 p ⟨a, e⟩ b then e else o, AQ (e - 1))) := by
   intro o e he
   simp only [CD, he, decide_true, cond_true, i0, i1, Option.bind_some, BP p (show p.joins.length < 1000000 by omega), O7]
   by_cases hm : F3 p ⟨a, e⟩ b <;> simp [hm]
  have two : AO (CD p (a :: b :: r)) ((-1), 1) = AO (CD p (a :: b :: r)) (Cj p a b, -1) := by
   rw [Bq (st (-1) 1 (by omega)), show AQ (1 - 1) = 0 by decide, Bq (st _ 0 (by omega)), show AQ (0 - 1) = -1 by decide]
   rfl
  have hsd : decide (Cj p a b < 0) = false := by simp; omega
  obtain ⟨t, t1, t2⟩ : ∃ t, AO (Df p (a :: b :: r)) (Cj p a b, 1, [AQ (1 - Cj p a b)]) = some t /\ t.2 = true := by
   refine ED (fun k s => k + 1 <= (a :: b :: r).length /\ s.2.1 = ((k + 1 : Nat) : Int) /\ s.2.2.length <= k + 1 /\ ∀ e, (a :: b :: r)[k]? = some e -> HT p s.1 e ((a :: b :: r).drop (k + 1))) (a :: b :: r).length ?_ ⟨by simp, rfl, by simp, fun e he => by cases he; exact hc⟩
   rintro k ⟨o, i, ins⟩ ⟨hk, hi, hins, hch⟩
   simp only at hi hins hch
   subst hi
   generalize hL : a :: b :: r = L at *
   by_cases he : k + 1 = L.length
   .have : decide (((k + 1 : Nat) : Int) < L.length) = false := by simp; omega
    exact .inl ⟨(ins, true), by simp only [Df, this, cond_false], rfl⟩
   have hlt : k + 1 < L.length := by omega
   have hd : decide (((k + 1 : Nat) : Int) < L.length) = true := by simp; omega
   have ha : L[k]? = some (L[k]'(by omega)) := List.getElem?_eq_getElem _
   have hb : L[k + 1]? = some (L[k + 1]'hlt) := List.getElem?_eq_getElem _
   have e1 : AQ (((k + 1 : Nat) : Int) - 1) = (k : Int) := by rw [CL] <;> omega
   have := hch _ ha
   rw [List.drop_eq_getElem_cons hlt] at this
   obtain ⟨y, hn, hy, hrest⟩ := S8 this
   obtain ⟨f1, f2, _⟩ := Da (hj.next hn)
   have e2 : (y.elem != L[k + 1]'hlt) = false := by simp [hy]
   refine .inr ⟨by omega, (1 - y.fin, ((k + 1 + 1 : Nat) : Int), ins ++ [y.fin]), ?_, by omega, rfl, by simp; omega, fun e he' => ?_⟩
   .simp only [Df, hd, cond_true, e1, AX, ha, hb, Option.bind_some, BP p (show p.joins.length < 1000000 by omega), hn, Option.isSome_some, Option.getD_some, Bool.not_true, cond_false, e2]
    rw [A8 (by simp; omega), AP (show k + 1 < 1000000000 by omega), CL (n := 1 - y.fin) (by omega) (by omega)]; rfl
   rw [hb] at he'; cases he'; exact hrest
  refine ⟨t, ?_, t2⟩
  rw [two, FH]
  simp only [CD, show decide ((0 : Int) <= -1) = false by decide, cond_false, hsd, t1]
  rfl
 refine ⟨b, El (l := l) ?_ (fun i e he => ?_), e2⟩
 .simp only [FA, BL, cond_false, CE, e1]; rfl
 have := A7 he
 simp only [FA, A3 he, cond_true, AX, he, Option.bind_some, C3, h.track i e he, bne_self_eq_false, cond_false, AP (show i < 1000000000 by omega)]
theorem AAl (l : List Int) (n : Int) (hl : l.length < 1000000) (h : n ∉ l) : C0 l n = some false := by
 unfold C0
 refine El (l := l) (by simp only [EH, BL, cond_false]) (fun i a ha => ?_)
 have := A7 ha
 have hne : (a == n) = false := beq_eq_false_iff_ne.2 fun e => h (e ▸ List.mem_of_getElem? ha)
 simp only [EH, A3 ha, cond_true, AX, ha, Option.bind_some, hne, cond_false, AP (show i < 1000000000 by omega)]
theorem Vc (p : AM) (hf : DF p) (hj : Dx p) (hL : Tf p) : G3 p = some true := by
 have q1 := hf.lines
 have nod := hL.once
 have len : ∀ k, ((p.lines.take k).flatMap (·.elems)).length <= 60 * k := by
  intro k
  induction k with
  | zero => simp
  | succ k ih =>
   cases h : p.lines[k]? with
   | none =>
    have : p.lines.take (k + 1) = p.lines.take k := by
     have := List.getElem?_eq_none_iff.1 h
     rw [List.take_of_length_le (by omega), List.take_of_length_le (by omega)]
    rw [this]; omega
   | some l =>
    rw [CF h, List.length_append]
    have := (hf.line k l h).1
    omega
 unfold G3
 obtain ⟨b, hb, rfl⟩ := B0 (l := p.lines) (step := Ep p) (Post := fun b => b = true) (fun k c => c = (p.lines.take k).flatMap (·.elems)) (fun c hc => ⟨true, by simp only [Ep, BL, cond_false], rfl⟩) (fun i a c ha hc => by
   have hi := A7 ha
   have hlen := len i
   have hal := (hf.line i a ha).1
   simp only [Ep, A3 ha, cond_true, AX, ha, Option.bind_some]
   have nd : ((p.lines.take i).flatMap (·.elems) ++ a.elems).Nodup := by
    rw [<- CF ha]
    refine List.Sublist.nodup ?_ nod
    rw [<- List.take_append_drop (i + 1) p.lines, List.flatMap_append]
    rw [List.take_append_drop]
    exact List.sublist_append_left _ _
   obtain ⟨r, hr, h⟩ : ∃ r, AO (Dv p ((i : Int), c) a) (0, c) = some r /\ r = .inl (((i + 1 : Nat) : Int), c ++ a.elems) := by
    refine B0 (l := a.elems) (fun k d => d = c ++ a.elems.take k) (fun d hd => ?_) (fun k e d he hd => ?_) (c := c) (by simp)
    .rw [List.take_length] at hd
     obtain ⟨b, hb, hb'⟩ := Uw p hf hj a.elems hal (hL.line i a ha)
     exact ⟨_, by simp only [Dv, BL, cond_false, hb, Option.bind_some, AP (show i < 1000000000 by omega), hb', Bool.not_true, cond_false]; rfl, by rw [hd]⟩
    have hk := A7 he
    have hdl : d.length <= 60 * i + 60 := by rw [hd, hc, List.length_append, List.length_take]; omega
    have hno : e ∉ d := by
     rw [hd, hc]
     intro hx
     rcases List.mem_append.1 hx with hx | hx
     .exact (List.nodup_append.1 nd).2.2 e hx e (List.mem_of_getElem? he) rfl
     obtain ⟨j, hj, hje⟩ := Nm hx
     have := (List.getElem?_inj (A7 hje) (List.nodup_append.1 nd).2.1).1 (hje.trans he.symm)
     omega
    refine .inr ⟨d ++ [e], ?_, by rw [hd, List.append_assoc, List.take_add_one, he]; rfl⟩
    simp only [Dv, A3 he, cond_true, AX, he, Option.bind_some, AAl d e (by omega) hno, AP (show k < 1000000000 by omega), cond_false, A8 (show d.length + [e].length <= 4294967296 by simp; omega)]
   rw [hr, h]
   exact .inr ⟨_, rfl, by rw [hc, CF ha]⟩) (c := []) rfl
 exact hb
theorem XC (p : AM) (hf : DF p) (ha : IV p) (hl : Pe p) : H8 p = some true := by
 have q1 := hf.elems; have q3 := hf.signals; have q4 := ha.top
 obtain ⟨n, hn, n1, n2⟩ := LC p.top p.brake
 have hs := hl.stop n hn
 unfold H8
 simp only [hn, Option.bind_some]
 rw [CL (n := p.top + n) (by omega) (by omega)]
 simp only [decide_eq_false (show ¬ p.margin < p.top + n by omega), cond_false]
 have e2 : AO (Ed p) 0 = some true := El (l := p.elems) (by simp only [Ed, BL, cond_false]) (fun i e he => by
  have := A7 he
  simp only [Ed, A3 he, cond_true, AX, he, Option.bind_some, Cn, AP (show i < 1000000000 by omega)]
  by_cases hk : e.kind = 4
  .simp only [if_pos hk]; rfl
  have := hl.elem i e he hk
  simp only [if_neg hk, decide_eq_false (show ¬ e.length < p.top by omega)]; rfl)
 refine El (l := p.signals) (by simp only [Ga, BL, cond_false, e2]; rfl) (fun i s h => ?_)
 have := A7 h
 simp only [Ga, A3 h, cond_true, AX, h, Option.bind_some, CE, C3, NA, AP (show i < 1000000000 by omega)]
 by_cases hk : Ah p s.at_.elem = 1
 .have := hl.signal i s h hk
  simp only [if_pos hk, decide_eq_false (show ¬ Gd p s.at_.elem < p.margin by omega)]; rfl
 simp only [if_neg hk]; rfl
theorem Vd (p : AM) (hv : CT p) : Fx p = some 0 := by
 have h1 := hv.ne; have h2 := hv.ns; have h3 := hv.nl; have h4 := hv.nj
 unfold Fx
 simp only [show ¬ (40 : Int) < p.elems.length by omega, show ¬ (24 : Int) < p.signals.length by omega, show ¬ (4 : Int) < p.lines.length by omega, show ¬ (80 : Int) < p.joins.length by omega, decide_false, cond_false, Option.bind_some,
  UX p hv.few, XB p hv.few hv.args, Bool.not_true, Mm _ (by simp; omega) hv.n1, Mm _ (by simp; omega) hv.n2, Mm _ (by simp; omega) hv.n3, Uv p hv.few hv.join, TP p hv.few hv.sig, Vc p hv.few hv.join hv.line, XC p hv.few hv.args hv.long]
end Go.E
/- Plain Lean: the program's check answers of every plan that is not too long; what it takes is valid. No condition. -/
namespace Go.E
open Go
theorem Pg (b c : Bool) : (bif b then some true else some c) = some (b || c) := by cases b <;> rfl
theorem Jv (s : ByteArray) : ∃ b, EI s = some b /\ (b = true -> HS s) := by
 have emp : ByteArray.empty.toList = [] := List.length_eq_zero_iff.1 ((Iu ByteArray.empty).trans rfl)
 unfold EI
 by_cases c0 : s.size = 0
 .have : (s.toList == ByteArray.empty.toList) = true := by
   rw [emp, List.length_eq_zero_iff.1 ((Iu s).trans c0)]; rfl
  exact ⟨false, by simp only [this, cond_true, Option.bind_some], by simp⟩
 have e0 : (s.toList == ByteArray.empty.toList) = false := by
  rw [beq_eq_false_iff_ne, emp]
  intro e
  have := Iu s
  rw [e] at this
  exact c0 this.symm
 by_cases c1 : 8 < s.size
 .exact ⟨false, by simp only [e0, cond_false, decide_eq_true (show (8 : Int) < s.size by omega), cond_true, Option.bind_some], by simp⟩
 have h0 : s[0]? = some s[0] := getElem?_pos s 0 (by omega)
 have x0 : Kv s 0 = some s[0] := h0
 simp only [e0, decide_eq_false (show ¬ (8 : Int) < s.size by omega), cond_false, x0, Option.bind_some, G9]
 cases l0 : EF s[0] with
 | false => exact ⟨false, rfl, by simp⟩
 | true =>
  refine K9 (s := s) (step := Dg s) (fun i c => EF c = true \/ (i ≠ 0 /\ Lx c = true)) 1 (by omega) (fun g => ⟨true, by
   have : decide ((s.size : Int) < s.size) = false := by simp
   simp only [Dg, this, cond_false], fun _ => ⟨by omega, by omega, fun i c hc => ?_⟩⟩) (fun i c hi hc => ?_)
  .by_cases hi : i = 0
   .subst hi; rw [h0] at hc; cases hc; exact .inl l0
   exact g i c (by omega) hc
  have hlt : i < s.size := by
   by_cases h : i < s.size
   .exact h
   rw [getElem?_neg s i h] at hc; cases hc
  have hd : decide ((i : Int) < s.size) = true := by simpa using hlt
  have hx : Kv s (i : Int) = some c := hc
  simp only [Dg, hd, cond_true, hx, Option.bind_some, G9, AP (show i < 1000000000 by omega)]
  cases hL : EF c with
  | true => exact .inr ⟨by simp, .inl rfl⟩
  | false =>
   by_cases h1 : (c.toNat : Int) < 48
   .exact .inl ⟨false, by simp [h1], by simp⟩
   by_cases h2 : (57 : Int) < c.toNat
   .exact .inl ⟨false, by simp [h1, h2], by simp⟩
   exact .inr ⟨by simp [h1, h2], .inr ⟨by omega, by simp [Lx]; omega⟩⟩
theorem TQ (p : AM) (hf : DF p) : ∃ b, EA p = some b /\ (b = true -> IV p) := by
 have q1 := hf.elems; have q2 := hf.signals; have q3 := hf.lines
 unfold EA
 simp only [Pg, Option.bind_some]
 cases hB : (decide (p.top < 1) || (decide (60 < p.top) || (decide (p.brake < 1) || (decide (10 < p.brake) || (decide (p.margin < 1) || (decide (4000 < p.margin) || (decide (p.throw < 1) || (decide (20 < p.throw) || ((p.elems.length : Int) == 0))))))))) with
 | true => exact ⟨false, rfl, by simp⟩
 | false =>
  simp only [Bool.or_eq_false_iff, decide_eq_false_iff_not, beq_eq_false_iff_ne] at hB
  obtain ⟨a1, a2, a3, a4, a5, a6, a7, a8, a9⟩ := hB
  simp only [cond_false]
  refine Bd (l := p.elems) (fun _ e => UW e) (fun g1 => ?_) (fun i e he _ => ?_)
  .obtain ⟨b, hb, hp⟩ : ∃ b, AO (Ca p) 0 = some b /\ (b = true -> IV p) := by
    refine Bd (l := p.signals) (fun _ s => HS s.name) (fun g2 => ?_) (fun i s hs _ => ?_)
    .obtain ⟨b, hb, hp⟩ : ∃ b, AO (CZ p) 0 = some b /\ (b = true -> IV p) := by
      refine Bd (l := p.lines) (fun _ s => HS s.name) (fun g3 => ?_) (fun i s hs _ => ?_)
      .exact ⟨true, by simp only [CZ, BL, cond_false], fun _ => ⟨by omega, by omega, by omega, by omega, by omega, g1, g2, g3⟩⟩
      have := A7 hs
      obtain ⟨b, hb, hn⟩ := Jv s.name
      simp only [CZ, A3 hs, cond_true, AX, hs, Option.bind_some, hb, AP (show i < 1000000000 by omega)]
      cases b with
      | false => exact .inl ⟨false, rfl, by simp⟩
      | true => exact .inr ⟨rfl, hn rfl⟩
     exact ⟨b, by simp only [Ca, BL, cond_false, hb]; rfl, hp⟩
    have := A7 hs
    obtain ⟨b, hb, hn⟩ := Jv s.name
    simp only [Ca, A3 hs, cond_true, AX, hs, Option.bind_some, hb, AP (show i < 1000000000 by omega)]
    cases b with
    | false => exact .inl ⟨false, rfl, by simp⟩
    | true => exact .inr ⟨rfl, hn rfl⟩
   exact ⟨b, by simp only [DI, BL, cond_false, hb]; rfl, hp⟩
  have := A7 he
  obtain ⟨b, hb, hn⟩ := Jv e.name
  simp only [DI, A3 he, cond_true, AX, he, Option.bind_some, hb, AP (show i < 1000000000 by omega), KA, Pg]
  cases b with
  | false => exact .inl ⟨false, rfl, by simp⟩
  | true =>
   by_cases h1 : CH e.kind = 0
   .exact .inl ⟨false, by simp [h1, FG], by simp⟩
   have h1' : (CH e.kind == 0) = false := beq_eq_false_iff_ne.2 h1
   by_cases h2 : e.kind = 4
   .by_cases h3 : e.length = 0
    .exact .inr ⟨by simp only [h1']; simp [h2, h3, FG], ⟨hn rfl, h1, fun _ => h3, fun h => absurd h2 h⟩⟩
    have h3' : (e.length != 0) = true := bne_iff_ne.2 h3
    exact .inl ⟨false, by simp only [h1', h3']; simp [h2, FG], by simp⟩
   have h2' : (e.kind == 4) = false := beq_eq_false_iff_ne.2 h2
   cases hC : (decide (e.length < 1) || decide (4000 < e.length)) with
   | true => exact .inl ⟨false, by simp only [h1', h2', Bool.not_true, cond_false, Option.bind_some, cond_true]; rfl, by simp⟩
   | false =>
    simp only [Bool.or_eq_false_iff, decide_eq_false_iff_not] at hC
    exact .inr ⟨by simp only [h1', h2', Bool.not_true, cond_false, Option.bind_some, cond_true]; rfl, ⟨hn rfl, h1, fun h => absurd h h2, fun _ => by omega⟩⟩
theorem PH {α : Type} (l : List α) (nm : α -> ByteArray) {step : Int × List (ByteArray × Bool) -> Option (Int × List (ByteArray × Bool) ⊕ Bool)} (h0 : ∀ c, step ((l.length : Int), c) = some (.inr false))
  (h1 : ∀ (i : Nat) a c, l[i]? = some a -> step ((i : Int), c) = bif (Ap c (nm a)).getD false then some (.inr true) else some (.inl (((i + 1 : Nat) : Int), BC (nm a) true c))) : ∃ b, AO step (0, []) = some b /\ (b = false -> KQ (l.map nm)) := by
 refine B0 (l := l) (fun i c => (∀ (j : Nat) b, j < i -> l[j]? = some b -> ∀ x, (x == nm b) = true -> (Ap c x).getD false = true) /\ ∀ (i' k : Nat) a b, k < i' -> i' < i -> l[i']? = some a -> l[k]? = some b -> (nm a).toList ≠ (nm b).toList) (fun c hc => ⟨false, h0 c, fun _ i k a b hk ha hb => ?_⟩) (fun i a c ha hc => ?_) (c := []) ⟨fun j b hj => by omega, fun i' k a b _ hi => by omega⟩
 .rw [List.getElem?_map] at ha hb
  obtain ⟨x, hx, rfl⟩ := Option.map_eq_some_iff.1 ha
  obtain ⟨y, hy, rfl⟩ := Option.map_eq_some_iff.1 hb
  exact hc.2 i k x y hk (A7 hx) hx hy
 rw [h1 i a c ha]
 cases hs : (Ap c (nm a)).getD false with
 | true => exact .inl ⟨true, rfl, by simp⟩
 | false =>
  refine .inr ⟨_, rfl, fun j b hj hb x hx => ?_, fun i' k a' b hk hi ha' hb => ?_⟩
  .rw [LF (nm a) true x c (by show ((nm a).toList == (nm a).toList) = true; simp)]
   by_cases h : (x == nm a) = true
   .rw [if_pos h]; rfl
   rw [if_neg h]
   by_cases e : j = i
   .subst e; rw [ha] at hb; cases hb; exact absurd hx h
   exact hc.1 j b (by omega) hb x hx
  by_cases e : i' = i
  .subst e
   rw [ha] at ha'; cases ha'
   intro e
   have := hc.1 k b hk hb (nm a) (by show ((nm a).toList == (nm b).toList) = true; rw [e]; simp)
   rw [hs] at this; cases this
  exact hc.2 i' k a' b hk (by omega) ha' hb
theorem QK {x : AF} : ∀ {l : List Bs}, B8 l x = none -> x ∉ (l.flatMap fun j => [j.a, j.b])
 | [], _ => by simp
 | j :: l, h => by
  simp only [B8] at h
  split at h
  .cases h
  rename_i h1
  split at h
  .cases h
  rename_i h2
  simp only [List.flatMap_cons, List.mem_append, List.mem_cons, List.not_mem_nil, or_false, not_or]
  exact ⟨⟨fun e => h1 e.symm, fun e => h2 e.symm⟩, QK h⟩
theorem XD {p : AM} {i : Nat} {j : Bs} (h : p.joins[i]? = some j) (o1 : B8 (p.joins.take i) j.a = none) (o2 : B8 (p.joins.take i) j.b = none) (o3 : j.a ≠ j.b) {c : List (AF × AF)} (hI : ∀ x, Ap c x = B8 (p.joins.take i) x) :
  ∀ x, Ap (BC j.b j.a (BC j.a j.b c)) x = B8 (p.joins.take (i + 1)) x := by
 intro x
 rw [C7, C7, List.take_add_one, h]
 simp only [Option.toList_some]
 rw [PD, hI]
 by_cases h1 : x = j.b
 .subst h1
  rw [if_pos rfl, o2]
  simp [o3]
 rw [if_neg h1]
 by_cases h2 : x = j.a
 .subst h2
  rw [if_pos rfl, o1]
  simp
 rw [if_neg h2, if_neg (fun e => h2 e.symm), if_neg (fun e => h1 e.symm)]
 cases B8 (p.joins.take i) x <;> rfl
theorem Pn (p : AM) (hf : DF p) : ∃ m b, Er p = some (m, b) /\ (b = true -> Dx p /\ ∀ x, Ap m x = As p x) := by
 have q1 := hf.elems; have q2 := hf.joins
 unfold Er
 have gates : ∀ s : Int × List (AF × AF), (∀ x, Ap s.2 x = As p x) -> (∀ x ∈ Bj p, CQ p x = true) -> (Bj p).Nodup -> ∃ b, AO (Cm p s) 0 = some b /\ (b.2 = true -> Dx p /\ ∀ x, Ap b.1 x = As p x) := by
  intro s hs hh hN
  refine Bd (l := p.elems) (fun i e => e.kind = 4 -> ∃ y, As p ⟨(i : Int), 0⟩ = some y /\ Ah p y.elem ≠ 4) (fun g => ⟨(s.2, true), by simp only [Cm, BL, cond_false], fun _ => ⟨⟨fun i x hx => hh x (List.mem_of_getElem? hx), fun i k x y hk hx hy e => ?_, g⟩, hs⟩⟩) (fun i e he _ => ?_)
  .subst e
   have := (List.getElem?_inj (A7 hy) hN).1 (hy.trans hx.symm)
   omega
  have := A7 he
  simp only [Cm, A3 he, cond_true, AX, he, Option.bind_some, Cn, hs, AP (show i < 1000000000 by omega)]
  by_cases hk : e.kind = 4
  .cases hy : As p ⟨(i : Int), 0⟩ with
   | none => exact .inl ⟨([], false), by simp [hk, FG], by simp⟩
   | some y =>
    obtain ⟨e', he', hke⟩ := II (hh y (Kn hy))
    by_cases h4 : e'.kind = 4
    .exact .inl ⟨([], false), by simp [hk, he', h4, FG], by simp⟩
    have h4' : (e'.kind == 4) = false := beq_eq_false_iff_ne.2 h4
    exact .inr ⟨by simp [hk, he', h4', FG], fun _ => ⟨y, rfl, by rw [hke]; exact h4⟩⟩
  exact .inr ⟨by simp [hk, FG], fun h => absurd h hk⟩
 obtain ⟨b, hb, h1⟩ := B0 (l := p.joins) (step := C2 p) (Post := fun b => b.2 = true -> Dx p /\ ∀ x, Ap b.1 x = As p x) (fun i c => (∀ x, Ap c x = B8 (p.joins.take i) x) /\ (∀ x ∈ (p.joins.take i).flatMap fun j => [j.a, j.b], CQ p x = true) /\ ((p.joins.take i).flatMap fun j => [j.a, j.b]).Nodup) (fun c hI => by
   rw [List.take_length] at hI
   obtain ⟨b, hb, h⟩ := gates ((p.joins.length : Int), c) hI.1 hI.2.1 hI.2.2
   exact ⟨b, by simp only [C2, BL, cond_false, hb]; rfl, h⟩) (fun i j c h hI => by
   have := A7 h
   simp only [C2, A3 h, cond_true, AX, h, Option.bind_some, hI.1, IT, Pg, AP (show i < 1000000000 by omega)]
   cases hB : ((B8 (p.joins.take i) j.a).isSome || ((B8 (p.joins.take i) j.b).isSome || ((j.a == j.b) || (!CQ p j.a || !CQ p j.b)))) with
   | true => exact .inl ⟨([], false), rfl, by simp⟩
   | false =>
    simp only [Bool.or_eq_false_iff, beq_eq_false_iff_ne, Bool.not_eq_false', Option.isSome_eq_false_iff, Option.isNone_iff_eq_none] at hB
    obtain ⟨o1, o2, o3, o4, o5⟩ := hB
    refine .inr ⟨_, rfl, XD h o1 o2 o3 hI.1, ?_, ?_⟩
    .rw [CF h]
     intro x hx
     rcases List.mem_append.1 hx with hx | hx
     .exact hI.2.1 x hx
     simp only [List.mem_cons, List.not_mem_nil, or_false] at hx
     rcases hx with rfl | rfl
     .exact o4
     exact o5
    rw [CF h, List.nodup_append]
    refine ⟨hI.2.2, by simp [o3], fun x hx y hy e => ?_⟩
    subst e
    simp only [List.mem_cons, List.not_mem_nil, or_false] at hy
    rcases hy with rfl | rfl
    .exact QK o1 hx
    exact QK o2 hx) (c := []) ⟨fun x => by simp [Ap, B8], by simp, by simp⟩
 exact ⟨b.1, b.2, hb, h1⟩
theorem PI (p : AM) (hf : DF p) (hj : Dx p) (m : List (AF × AF)) (hm : ∀ x, Ap m x = As p x) : ∃ b, EB p m = some b /\ (b = true -> SA p) := by
 have q1 := hf.elems; have q3 := hf.signals
 unfold EB
 refine B0 (l := p.signals) (fun i c => (∀ x, (Ap c x).getD false = decide (x ∈ (p.signals.take i).map (·.at_))) /\ ((p.signals.take i).map (·.at_)).Nodup /\ ∀ (j : Nat) s, j < i -> p.signals[j]? = some s -> CQ p s.at_ = true /\ (Ah p s.at_.elem = 1 \/ Ah p s.at_.elem = 4) /\ ∃ y, As p s.at_ = some y /\ Ah p y.elem ≠ 4) (fun c hI => ?_) (fun i s c h hI => ?_) (c := []) ⟨fun x => by simp [Ap], by simp, fun j s hj => by omega⟩
 .rw [List.take_length] at hI
  obtain ⟨I1, I2, I3⟩ := hI
  obtain ⟨b, hb, h⟩ : ∃ b, AO (Cb p ((p.signals.length : Int), c)) 0 = some b /\ (b = true -> SA p) := by
   refine Bd (l := p.elems) (fun i e => e.kind = 4 -> 0 <= Ay p ⟨(i : Int), 0⟩) (fun g => ⟨true, by simp only [Cb, BL, cond_false], fun _ => ⟨fun i s h => (I3 i s (A7 h) h).1, fun i s h => (I3 i s (A7 h) h).2.1, fun i s h => (I3 i s (A7 h) h).2.2, fun i s h => ?_, g⟩⟩) (fun i e he _ => ?_)
   .unfold Ay
    rcases Hg s.at_ p.signals 0 with ⟨_, h2⟩ | ⟨k, t, h1, h2, h3, _⟩
    .exact absurd rfl (h2 i s h)
    have a1 : (p.signals.map (·.at_))[k]? = some s.at_ := by rw [List.getElem?_map, h1]; simp [h2]
    have a2 : (p.signals.map (·.at_))[i]? = some s.at_ := by rw [List.getElem?_map, h]; rfl
    have := (List.getElem?_inj (A7 a1) I2).1 (a1.trans a2.symm)
    rw [h3]; omega
   have := A7 he
   simp only [Cb, A3 he, cond_true, AX, he, Option.bind_some, CE, I1, AP (show i < 1000000000 by omega)]
   by_cases hk : e.kind = 4
   .by_cases hx : (⟨(i : Int), 0⟩ : AF) ∈ p.signals.map (·.at_)
    .refine .inr ⟨by simp only [if_pos hk, decide_eq_true hx]; rfl, fun _ => ?_⟩
     obtain ⟨t, ht, hte⟩ := List.mem_map.1 hx
     obtain ⟨k, hk⟩ := List.mem_iff_getElem?.1 ht
     unfold Ay
     rcases Hg ⟨(i : Int), 0⟩ p.signals 0 with ⟨_, h2⟩ | ⟨k, t, h1, h2, h3, _⟩
     .exact absurd hte (h2 k t hk)
     rw [h3]; omega
    exact .inl ⟨false, by simp only [if_pos hk, decide_eq_false hx]; rfl, by simp⟩
   exact .inr ⟨by simp only [if_neg hk]; rfl, fun h => absurd h hk⟩
  exact ⟨b, by simp only [DJ, BL, cond_false, hb]; rfl, h⟩
 obtain ⟨I1, I2, I3⟩ := hI
 have := A7 h
 simp only [DJ, A3 h, cond_true, AX, h, Option.bind_some, IT, I1, Pg, hm, AP (show i < 1000000000 by omega)]
 cases hB : (!CQ p s.at_ || decide (s.at_ ∈ (p.signals.take i).map (·.at_))) with
 | true => exact .inl ⟨false, rfl, by simp⟩
 | false =>
  simp only [Bool.or_eq_false_iff, Bool.not_eq_false', decide_eq_false_iff_not] at hB
  obtain ⟨o1, o2⟩ := hB
  obtain ⟨e, he, hke⟩ := II o1
  simp only [cond_false, he, Option.bind_some, Cn]
  by_cases hk : e.kind = 1 \/ e.kind = 4
  .have hk' : ((if e.kind = 1 then some false else some (e.kind != 4) : Option Bool)) = some false := by
    rcases hk with h | h <;> simp [h]
   simp only [hk', Option.bind_some, cond_false]
   cases hy : As p s.at_ with
   | none => exact .inl ⟨false, by simp, by simp⟩
   | some y =>
    obtain ⟨e', he', hke'⟩ := II (hj.next hy)
    by_cases h4 : e'.kind = 4
    .exact .inl ⟨false, by simp [he', h4], by simp⟩
    have h4' : (e'.kind == 4) = false := beq_eq_false_iff_ne.2 h4
    refine .inr ⟨BC s.at_ true c, by simp [he', h4'], fun x => ?_, ?_, fun j t hj' ht => ?_⟩
    .rw [C7, List.take_add_one, h]
     simp only [Option.toList_some, List.map_append, List.map_cons, List.map_nil, List.mem_append, List.mem_singleton]
     by_cases hx : x = s.at_
     .simp [hx]
     rw [if_neg hx, I1]; simp only [hx, or_false]
    .rw [HR h, List.nodup_append]
     exact ⟨I2, by simp, fun x hx y hy e => by simp at hy; subst hy; subst e; exact o2 hx⟩
    by_cases e : j = i
    .subst e; rw [h] at ht; cases ht
     exact ⟨o1, by rw [hke]; exact hk, y, hy, by rw [hke']; exact h4⟩
    exact I3 j t (by omega) ht
  have h1 : ¬ e.kind = 1 := fun h => hk (.inl h)
  have h2 : (e.kind != 4) = true := bne_iff_ne.2 fun h => hk (.inr h)
  exact .inl ⟨false, by simp only [if_neg h1, h2]; rfl, by simp⟩
theorem SJ (p : AM) (hj : Dx p) (m : List (AF × AF)) (hm : ∀ x, Ap m x = As p x) (l : List Int) (hl : l.length <= 60) (h1 : 1 <= l.length) (ht : ∀ (i : Nat) e, l[i]? = some e -> Ah p e = 1) : ∃ b, G4 l m = some b /\ (b = true -> Jn p l) := by
 unfold G4
 by_cases h2 : (l.length : Int) < 2
 .exact ⟨true, by simp [h2], fun _ => ⟨h1, ht, fun a b r h => by rw [h] at h2; simp at h2; omega⟩⟩
 have hd : decide ((l.length : Int) < 2) = false := by simpa using h2
 simp only [hd, cond_false]
 obtain ⟨a, b, r, rfl⟩ : ∃ a b r, l = a :: b :: r := by
  match l, h2 with
  | [], h => simp at h
  | [a], h => simp at h
  | a :: b :: r, _ => exact ⟨a, b, r, rfl⟩
 have i0 : Ak (a :: b :: r) 0 = some a := rfl
 have i1 : Ak (a :: b :: r) 1 = some b := rfl
 have st : ∀ (o e : Int), 0 <= e -> Cc (a :: b :: r) m (o, e) = some (.inl (if F3 p ⟨a, e⟩ b then e else o, AQ (e - 1))) := by
  intro o e he
  simp only [Cc, he, decide_true, cond_true, i0, i1, Option.bind_some, Rb hm]
  by_cases hm : F3 p ⟨a, e⟩ b <;> simp [hm]
 have two : AO (Cc (a :: b :: r) m) ((-1), 1) = AO (Cc (a :: b :: r) m) (Cj p a b, -1) := by
  rw [Bq (st (-1) 1 (by omega)), show AQ (1 - 1) = 0 by decide, Bq (st _ 0 (by omega)), show AQ (0 - 1) = -1 by decide]
  rfl
 rw [two, FH]
 simp only [Cc, show decide ((0 : Int) <= -1) = false by decide, cond_false]
 by_cases hs : Cj p a b < 0
 .exact ⟨false, by simp [hs], by simp⟩
 have hsd : decide (Cj p a b < 0) = false := by simpa using hs
 simp only [hsd, cond_false]
 obtain ⟨b', hb', hp'⟩ : ∃ b', AO (DX (a :: b :: r) m) (Cj p a b, 1) = some b' /\ (b' = true -> HT p (Cj p a b) a (b :: r)) := by
  refine ED (fun k s => k + 1 <= (a :: b :: r).length /\ s.2 = ((k + 1 : Nat) : Int) /\ ∀ e, (a :: b :: r)[k]? = some e -> HT p s.1 e ((a :: b :: r).drop (k + 1)) -> HT p (Cj p a b) a (b :: r)) (a :: b :: r).length ?_ ⟨by simp, rfl, fun e he h => by cases he; exact h⟩
  rintro k ⟨o, i⟩ ⟨hk, hi, hc⟩
  simp only at hi hc
  subst hi
  generalize hL : a :: b :: r = L at *
  by_cases he : k + 1 = L.length
  .have : decide (((k + 1 : Nat) : Int) < L.length) = false := by simp; omega
   refine .inl ⟨true, by simp only [DX, this, cond_false], fun _ => ?_⟩
   have ha : L[k]? = some (L[k]'(by omega)) := List.getElem?_eq_getElem _
   refine hc _ ha ?_
   rw [List.drop_eq_nil_of_le (by omega)]
   trivial
  have hlt : k + 1 < L.length := by omega
  have hd : decide (((k + 1 : Nat) : Int) < L.length) = true := by simp; omega
  have ha : L[k]? = some (L[k]'(by omega)) := List.getElem?_eq_getElem _
  have hb : L[k + 1]? = some (L[k + 1]'hlt) := List.getElem?_eq_getElem _
  have e1 : AQ (((k + 1 : Nat) : Int) - 1) = (k : Int) := by rw [CL] <;> omega
  simp only [DX, hd, cond_true, e1, AX, ha, hb, Option.bind_some, hm]
  cases hn : As p ⟨L[k]'(by omega), o⟩ with
  | none => exact .inl ⟨false, by simp, by simp⟩
  | some y =>
   by_cases hy : y.elem = L[k + 1]'hlt
   .obtain ⟨f1, f2, _⟩ := Da (hj.next hn)
    have e2 : (y.elem != L[k + 1]'hlt) = false := by simp [hy]
    refine .inr ⟨by omega, (1 - y.fin, ((k + 1 + 1 : Nat) : Int)), ?_, by omega, rfl, fun e he' h => ?_⟩
    .simp only [Option.isSome_some, Option.getD_some, Bool.not_true, cond_false, e2, Option.bind_some,
      AP (show k + 1 < 1000000000 by omega), CL (n := 1 - y.fin) (by omega) (by omega)]
    cases he'
    refine hc _ ha ?_
    rw [List.drop_eq_getElem_cons hlt]
    exact ⟨y, hn, hy, h⟩
   have e2 : (y.elem != L[k + 1]'hlt) = true := bne_iff_ne.2 hy
   exact .inl ⟨false, by simp [e2], by simp⟩
 exact ⟨b', by rw [hb']; rfl, fun h => ⟨by simp, ht, fun a' b'' r' e => by cases e; exact ⟨by omega, hp' h⟩⟩⟩
theorem QL (p : AM) (hf : DF p) (hj : Dx p) (m : List (AF × AF)) (hm : ∀ x, Ap m x = As p x) : ∃ b, FU p m = some b /\ (b = true -> Tf p) := by
 have q1 := hf.elems; have q4 := hf.lines
 unfold FU
 refine B0 (l := p.lines) (fun i c => (∀ x, (Ap c x).getD false = decide (x ∈ (p.lines.take i).flatMap (·.elems))) /\ ((p.lines.take i).flatMap (·.elems)).Nodup /\ ∀ (j : Nat) l, j < i -> p.lines[j]? = some l -> Jn p l.elems) (fun c hI => ?_) (fun i a c ha hI => ?_) (c := []) ⟨fun x => by simp [Ap], by simp, fun j l hj => by omega⟩
 .rw [List.take_length] at hI
  exact ⟨true, by simp only [Dm, BL, cond_false], fun _ => ⟨fun i l h => hI.2.2 i l (A7 h) h, hI.2.1⟩⟩
 obtain ⟨I1, I2, I3⟩ := hI
 have := A7 ha
 have hal := (hf.line i a ha).1
 simp only [Dm, A3 ha, cond_true, AX, ha, Option.bind_some]
 by_cases h0 : (a.elems.length : Int) = 0
 .exact .inl ⟨false, by simp [h0], by simp⟩
 have h0' : ((a.elems.length : Int) == 0) = false := beq_eq_false_iff_ne.2 h0
 simp only [h0', cond_false]
 obtain ⟨r, hr, h⟩ : ∃ r, AO (DO p m ((i : Int), c) a) (0, c) = some r /\ (r = .inr false \/ ∃ c', r = .inl (((i + 1 : Nat) : Int), c') /\ (∀ x, (Ap c' x).getD false = decide (x ∈ (p.lines.take (i + 1)).flatMap (·.elems))) /\ ((p.lines.take (i + 1)).flatMap (·.elems)).Nodup /\ Jn p a.elems) := by
  refine B0 (l := a.elems) (fun k d => (∀ x, (Ap d x).getD false = decide (x ∈ (p.lines.take i).flatMap (·.elems) ++ a.elems.take k)) /\ ((p.lines.take i).flatMap (·.elems) ++ a.elems.take k).Nodup /\ ∀ (j : Nat) e, j < k -> a.elems[j]? = some e -> Ah p e = 1) (fun d hd => ?_) (fun k e d he hd => ?_) (c := c) ⟨fun x => by simpa using I1 x, by simpa using I2, fun j e hj => by omega⟩
  .rw [List.take_length] at hd
   obtain ⟨d1, d2, d3⟩ := hd
   obtain ⟨b, hb, hp⟩ := SJ p hj m hm a.elems hal (by omega) (fun j e he => d3 j e (A7 he) he)
   simp only [DO, BL, cond_false, hb, Option.bind_some, AP (show i < 1000000000 by omega)]
   cases b with
   | false => exact ⟨_, rfl, .inl rfl⟩
   | true => exact ⟨_, rfl, .inr ⟨d, rfl, fun x => by rw [d1, CF ha], by rw [CF ha]; exact d2, hp rfl⟩⟩
  obtain ⟨d1, d2, d3⟩ := hd
  have hk := A7 he
  simp only [DO, A3 he, cond_true, AX, he, Option.bind_some, d1, Pg, AP (show k < 1000000000 by omega)]
  by_cases g1 : e < 0
  .exact .inl ⟨.inr false, by simp only [decide_eq_true g1]; rfl, .inl rfl⟩
  by_cases g2 : (p.elems.length : Int) <= e
  .exact .inl ⟨.inr false, by simp only [decide_eq_true g2, decide_eq_false g1]; rfl, .inl rfl⟩
  obtain ⟨el, hel⟩ := Kl (l := p.elems) (n := e) (by omega) (by omega)
  simp only [decide_eq_false g1, decide_eq_false g2, cond_false, hel, Option.bind_some]
  cases hB : ((el.kind != 1) || decide (e ∈ (p.lines.take i).flatMap (·.elems) ++ a.elems.take k)) with
  | true => exact .inl ⟨.inr false, rfl, .inl rfl⟩
  | false =>
   simp only [Bool.or_eq_false_iff, bne_eq_false_iff_eq, decide_eq_false_iff_not] at hB
   obtain ⟨o1, o2⟩ := hB
   have ap : (p.lines.take i).flatMap (·.elems) ++ a.elems.take (k + 1) = ((p.lines.take i).flatMap (·.elems) ++ a.elems.take k) ++ [e] := by
    rw [List.append_assoc, List.take_add_one, he]; rfl
   refine .inr ⟨BC e true d, rfl, fun x => ?_, ?_, fun j f hj' hf' => ?_⟩
   .rw [C7, ap]
    by_cases hx : x = e
    .simp [hx]
    rw [if_neg hx, d1]; simp only [List.mem_append, List.mem_singleton, hx, or_false]
   .rw [ap, List.nodup_append]
    exact ⟨d2, by simp, fun x hx y hy e => by simp at hy; subst hy; subst e; exact o2 hx⟩
   by_cases e' : j = k
   .subst e'; rw [he] at hf'; cases hf'; simp [Ah, hel, o1]
   exact d3 j f (by omega) hf'
 rw [hr]
 rcases h with rfl | ⟨c', rfl, h1, h2, h3⟩
 .exact .inl ⟨false, rfl, by simp⟩
 refine .inr ⟨c', rfl, h1, h2, fun j l hj' hl => ?_⟩
 by_cases e : j = i
 .subst e; rw [ha] at hl; cases hl; exact h3
 exact I3 j l (by omega) hl
theorem Rc (p : AM) (hf : DF p) (ha : IV p) (hS : SA p) : ∃ b, GA p = some b /\ (b = true -> Pe p) := by
 have q1 := hf.elems; have q3 := hf.signals; have q4 := ha.top
 obtain ⟨n, hn, n1, n2⟩ := LC p.top p.brake
 have hn' : Ir p.top p.brake = some n := hn
 unfold GA
 simp only [hn', Option.bind_some]
 rw [CL (n := p.top + n) (by omega) (by omega)]
 by_cases h : p.margin < p.top + n
 .exact ⟨false, by simp [h], by simp⟩
 simp only [decide_eq_false h, cond_false]
 refine Bd (l := p.signals) (fun i s => Ah p s.at_.elem = 1 -> p.margin <= Gd p s.at_.elem) (fun g => ?_) (fun i s hs _ => ?_)
 .obtain ⟨b, hb, hg⟩ : ∃ b, AO (DE p) 0 = some b /\ (b = true -> Pe p) := by
   refine Bd (l := p.elems) (fun i e => e.kind ≠ 4 -> p.top <= e.length) (fun g2 => ?_) (fun i e he _ => ?_)
   .exact ⟨true, by simp only [DE, BL, cond_false], fun _ => ⟨fun m hm => by rw [hn] at hm; cases hm; omega, g, g2⟩⟩
   have := A7 he
   simp only [DE, A3 he, cond_true, AX, he, Option.bind_some, Cn, AP (show i < 1000000000 by omega)]
   by_cases hk : e.kind = 4
   .exact .inr ⟨by simp [hk], fun h => absurd hk h⟩
   by_cases hl : e.length < p.top
   .exact .inl ⟨false, by simp [hk, hl], by simp⟩
   exact .inr ⟨by simp [hk, hl], fun _ => by omega⟩
  exact ⟨b, by simp only [EC, BL, cond_false, hb]; rfl, hg⟩
 have := A7 hs
 obtain ⟨e, he, hke⟩ := II (hS.has i s hs)
 have hle : Gd p s.at_.elem = e.length := by simp [Gd, he]
 simp only [EC, A3 hs, cond_true, AX, hs, Option.bind_some, CE, he, AP (show i < 1000000000 by omega)]
 rw [hke, hle]
 by_cases hk : e.kind = 1
 .by_cases hl : e.length < p.margin
  .exact .inl ⟨false, by simp [hk, hl], by simp⟩
  exact .inr ⟨by simp [hk, hl], fun _ => by omega⟩
 exact .inr ⟨by simp [hk], fun h => absurd h hk⟩
theorem QM (p : AM) (hf : DF p) : ∃ r, FV p = some r /\ (r = 0 -> CT p) := by
 have q1 := hf.elems; have q2 := hf.joins; have q3 := hf.signals; have q4 := hf.lines
 unfold FV
 simp only [Pg, Option.bind_some]
 cases hB : (decide ((40 : Int) < p.elems.length) || (decide ((24 : Int) < p.signals.length) || (decide ((4 : Int) < p.lines.length) || decide ((80 : Int) < p.joins.length)))) with
 | true => exact ⟨3, rfl, fun h => absurd h (by decide)⟩
 | false =>
  simp only [Bool.or_eq_false_iff, decide_eq_false_iff_not] at hB
  obtain ⟨a1, a2, a3, a4⟩ := hB
  obtain ⟨b1, h1, g1⟩ := TQ p hf
  simp only [h1, Option.bind_some, cond_false]
  cases b1 with
  | false => exact ⟨1, rfl, fun h => absurd h (by decide)⟩
  | true =>
   obtain ⟨t1, k1, m1⟩ := PH p.elems (·.name) (step := Cu p) (fun c => by simp only [Cu, BL, cond_false]) (fun i a c h => by have := A7 h; simp only [Cu, A3 h, cond_true, FB, AX, h, Option.bind_some, AP (show i < 1000000000 by omega)])
   obtain ⟨t2, k2, m2⟩ := PH p.signals (·.name) (step := Cv p) (fun c => by simp only [Cv, BL, cond_false]) (fun i a c h => by have := A7 h; simp only [Cv, A3 h, cond_true, FC, AX, h, Option.bind_some, AP (show i < 1000000000 by omega)])
   obtain ⟨t3, k3, m3⟩ := PH p.lines (·.name) (step := Cw p) (fun c => by simp only [Cw, BL, cond_false]) (fun i a c h => by have := A7 h; simp only [Cw, A3 h, cond_true, FD, AX, h, Option.bind_some, AP (show i < 1000000000 by omega)])
   simp only [k1, k2, k3, Option.bind_some, Bool.not_true, cond_false]
   cases t1 with
   | true => exact ⟨4, rfl, fun h => absurd h (by decide)⟩
   | false =>
    cases t2 with
    | true => exact ⟨4, rfl, fun h => absurd h (by decide)⟩
    | false =>
     cases t3 with
     | true => exact ⟨4, rfl, fun h => absurd h (by decide)⟩
     | false =>
      obtain ⟨m, b2, h2, g2⟩ := Pn p hf
      simp only [h2, Option.bind_some, cond_false]
      cases b2 with
      | false => exact ⟨6, rfl, fun h => absurd h (by decide)⟩
      | true =>
       obtain ⟨hj, hm⟩ := g2 rfl
       obtain ⟨b3, h3, g3⟩ := PI p hf hj m hm
       simp only [h3, Option.bind_some, Bool.not_true, cond_false]
       cases b3 with
       | false => exact ⟨7, rfl, fun h => absurd h (by decide)⟩
       | true =>
        obtain ⟨b4, h4, g4⟩ := QL p hf hj m hm
        simp only [h4, Option.bind_some, Bool.not_true, cond_false]
        cases b4 with
        | false => exact ⟨8, rfl, fun h => absurd h (by decide)⟩
        | true =>
         obtain ⟨b5, h5, g5⟩ := Rc p hf (g1 rfl) (g3 rfl)
         simp only [h5, Option.bind_some, Bool.not_true, cond_false]
         cases b5 with
         | false => exact ⟨9, rfl, fun h => absurd h (by decide)⟩
         | true => exact ⟨0, rfl, fun _ => ⟨hf, by omega, by omega, by omega, by omega, g1 rfl, m1 rfl, m2 rfl, m3 rfl, hj, g3 rfl, g4 rfl, g5 rfl⟩⟩
end Go.E
/- Plain Lean: the program and the document say the same of what is wrong first with a chart (ProofChecks). No condition. -/
namespace Go.E
open Go
theorem Ux (l : List AW) : ∃ b, Im l = some b /\ (b = true -> l.length <= 1000 /\ ∀ r ∈ l, Ra r) := by
 unfold Im
 by_cases h : (100 : Int) < (l.length : Int)
 .exact ⟨false, by simp [h], fun h => by cases h⟩
 simp only [h, decide_false, cond_false]
 refine Bd (l := l) (step := E6 l) (fun _ r => Ra r) (fun g => ⟨true, by simp [E6], fun _ => ⟨by omega, fun r hr => by
  obtain ⟨i, hi⟩ := List.mem_iff_getElem?.1 hr
  exact g i r hi⟩⟩) (fun i a ha _ => by
   obtain ⟨b, hb, hL⟩ := VV a
   have := A7 ha
   cases b with
   | true =>
    obtain ⟨q, _⟩ := hL rfl
    exact .inr ⟨by simp only [E6, A3 ha, cond_true, AX, ha, Option.bind_some, hb, Bool.not_true, cond_false, AP (show i < 1000000000 by omega)], q.needs, q.guards, q.zone, q.holds⟩
   | false => exact .inl ⟨false, by simp only [E6, A3 ha, cond_true, AX, ha, Option.bind_some, hb, Bool.not_false], by simp⟩)
theorem QN (c : CG) : GF c = some true := by
 obtain ⟨p, l⟩ := c
 unfold GF Je
 simp only [ZV, Option.bind_some, Bool.not_true, cond_false]
 obtain ⟨b0, h1, h2⟩ := Xk p
 simp only [h1, Option.bind_some]
 cases b0 with
 | false => rfl
 | true =>
  have hf := h2 rfl
  obtain ⟨b1, h3, h4⟩ := Ux l
  simp only [h3, Option.bind_some, cond_true]
  cases b1 with
  | false => rfl
  | true =>
   obtain ⟨hl, hL⟩ := h4 rfl
   simp only [Bool.not_true, cond_false]
   obtain ⟨r, r1, r2⟩ := VX p hf
   obtain ⟨q, q1, q2⟩ := QM p hf
   by_cases hq : q = 0
   .have hv := q2 hq
    obtain ⟨n, hN, hn⟩ := Z9 p hv
    rw [SI hv hN hn _ hl hL, Uu hv (Vd p hv) hn _ hl hL]
    obtain ⟨t, ht⟩ := XA p n l
    rw [ht]
    simp
   have hr : r ≠ 0 := fun e => by
    have := OC p (r2 e)
    rw [q1] at this
    exact hq (by simpa using this)
   have hq' : (q != 0) = true := bne_iff_ne.2 hq
   have hr' : (r != 0) = true := bne_iff_ne.2 hr
   have e1 : DS ⟨p, l⟩ = some (1, -1) := by
    unfold DS Gh
    simp only [q1, Option.bind_some, hq', cond_true, Rv]
   have e2 : F7 ⟨p, l⟩ = some (1, -1) := by
    unfold F7
    simp only [r1, Option.bind_some, hr', cond_true]
   rw [e1, e2]
   rfl
end Go.E
