/- Plain Lean: what the sides of a road reach, told without an order (Arr, ZoneR): the program's answer. No condition. -/
import Derived.KernelRfl
import Derived.Test.YtilbadmonidmhaaGreatJ5
set_option linter.unusedVariables false
set_option linter.unusedSimpArgs false
namespace Go.E
open Go
def seenB (vis : List (Port × Bool)) (x : Port) : Bool := (assoc vis x).getD false
section
variable {p : Plan} {n : Net}
def shutP (p : Plan) (shut : List Bool) (x : Port) : Bool := decide (0 <= readsP p x) && (idx shut (readsP p x)).getD false
inductive Arr (p : Plan) (pos : List Int) (shut : List Bool) (st : List Step) : Port -> Prop
 | init {x y : Port} : x ∈ portsF p st -> nextP p x = some y -> Arr p pos shut st y
 | step {x y : Port} {o : Int} : Arr p pos shut st x -> x.elem ∉ st.map (·.elem) -> shutP p shut x = false -> kindP p x.elem ≠ 4 -> throughP p x.elem x.fin (lieW pos x.elem) = some o -> nextP p ⟨x.elem, o⟩ = some y -> Arr p pos shut st y
def ZoneR (p : Plan) (pos : List Int) (shut : List Bool) (st : List Step) (e : Int) : Prop :=
 ∃ x, Arr p pos shut st x /\ x.elem = e /\ e ∉ st.map (·.elem) /\ shutP p shut x = false /\ (kindP p e = 4 \/ (throughP p e x.fin (lieW pos e)).isSome = true)
variable {pos : List Int} {shut : List Bool} {r : Road}
theorem Arr.from {st : List Step} {y : Port} (h : Arr p pos shut st y) : ∃ x, nextP p x = some y := by
 cases h with
 | init h1 h2 => exact ⟨_, h2⟩
 | step _ _ _ _ _ h2 => exact ⟨_, h2⟩
theorem has_range {x : Port} (h : hasP p x = true) : 0 <= x.elem /\ x.elem < p.elems.length := by
 obtain ⟨h1, h2, h3⟩ := hasP_fin h
 refine kind_range fun e => ?_
 rw [e] at h3
 simp [endsF] at h3
 omega
def doneB (vis : List (Port × Bool)) (zone : List (Int × Bool)) (p : Plan) (y : Port) : Prop := seenB vis y = true \/ (kindP p y.elem = 4 /\ (assoc zone y.elem).isSome = true)
def fullB (p : Plan) (pos : List Int) (shut : List Bool) (st : List Step) (q : List Port) (vis : List (Port × Bool)) (zone : List (Int × Bool)) (x : Port) : Prop :=
 x.elem ∉ st.map (·.elem) -> shutP p shut x = false -> kindP p x.elem ≠ 4 /\ ∀ o, throughP p x.elem x.fin (lieW pos x.elem) = some o -> (assoc zone x.elem).isSome = true /\ ∀ y, nextP p ⟨x.elem, o⟩ = some y -> y ∈ q \/ doneB vis zone p y
def unv (p : Plan) (vis : List (Port × Bool)) : Nat := ((portsP p).filter fun x => !seenB vis x).length
structure RI (p : Plan) (pos : List Int) (shut : List Bool) (st : List Step) (M k : Nat) (q : List Port) (vis : List (Port × Bool)) (zone : List (Int × Bool)) : Prop where
 arr : ∀ x ∈ q, Arr p pos shut st x
 full : ∀ x, seenB vis x = true -> fullB p pos shut st q vis zone x
 init : ∀ x y, x ∈ portsF p st -> nextP p x = some y -> y ∈ q \/ doneB vis zone p y
 zon : ∀ e, (assoc zone e).isSome = true -> ZoneR p pos shut st e
 nodup : (zone.map (·.1)).Nodup
 len : zone.length <= k
 meas : k + q.length + 2 * unv p vis <= M
theorem RI.next {st : List Step} {M k : Nat} {x : Port} {q q' : List Port} {vis vis' : List (Port × Bool)} {zone zone' : List (Int × Bool)} (h : RI p pos shut st M k (x :: q) vis zone)
  (hq : ∀ y ∈ q, y ∈ q') (hq2 : ∀ y ∈ q', Arr p pos shut st y) (hv : ∀ y, seenB vis y = true -> seenB vis' y = true) (hv2 : ∀ y, seenB vis' y = true -> seenB vis y = true \/ y = x)
  (hz : ∀ e, (assoc zone e).isSome = true -> (assoc zone' e).isSome = true) (hz2 : ∀ e, (assoc zone' e).isSome = true -> ZoneR p pos shut st e) (hz3 : (zone'.map (·.1)).Nodup) (hz4 : zone'.length <= zone.length + 1)
  (hx : doneB vis' zone' p x) (hf : seenB vis' x = true -> seenB vis x = false -> fullB p pos shut st q' vis' zone' x) (hm : q'.length + 2 * unv p vis' <= q.length + 2 * unv p vis) : RI p pos shut st M (k + 1) q' vis' zone' := by
 have keep : ∀ y, (y ∈ x :: q \/ doneB vis zone p y) -> y ∈ q' \/ doneB vis' zone' p y := by
  rintro y (hy | hy | ⟨hy, hy2⟩)
  .rcases List.mem_cons.1 hy with rfl | hy
   .exact .inr hx
   .exact .inl (hq y hy)
  .exact .inr (.inl (hv y hy))
  .exact .inr (.inr ⟨hy, hz _ hy2⟩)
 refine ⟨hq2, fun y hy => ?_, fun a y ha hy => keep y (h.init a y ha hy), hz2, hz3, by have := h.len; omega, by have := h.meas; simp only [List.length_cons] at this; omega⟩
 have old : seenB vis y = true -> fullB p pos shut st q' vis' zone' y := fun hy => fun h1 h2 => by
  obtain ⟨g1, g2⟩ := h.full y hy h1 h2
  exact ⟨g1, fun o ho => ⟨hz _ (g2 o ho).1, fun z hz' => keep z ((g2 o ho).2 z hz')⟩⟩
 rcases hv2 y hy with hy' | rfl
 .exact old hy'
 .cases c : seenB vis y with
  | true => exact old c
  | false => exact hf hy c
end
end Go.E
/- Plain Lean: the elements that Reach answers are those of ZoneR, ascending (laws SideShut, SideRuns). No condition. -/
namespace Go.E
open Go
section
variable {p : Plan} {n : Net} {pos : List Int} {shut : List Bool} {r : Road}
theorem shut_mono {a b : List Bool} (h : ∀ j : Nat, a[j]? = some true -> b[j]? = some true) {x : Port} (hs : shutP p b x = false) : shutP p a x = false := by
 unfold shutP at *
 by_cases c : 0 <= readsP p x
 .obtain ⟨i, hi⟩ := Int.eq_ofNat_of_zero_le c
  rw [hi] at hs ⊢
  simp only [idx_nat, Int.natCast_nonneg, decide_true, Bool.true_and] at hs ⊢
  cases ha : a[i]? with
  | none => rfl
  | some v =>
   cases v with
   | false => rfl
   | true => rw [h i ha] at hs; cases hs
 .simp [c]
theorem Arr.mono {a b : List Bool} (h : ∀ j : Nat, a[j]? = some true -> b[j]? = some true) {st : List Step} {x : Port} (hx : Arr p pos b st x) : Arr p pos a st x := by
 induction hx with
 | init h1 h2 => exact .init h1 h2
 | step h1 h2 h3 h4 h5 h6 ih => exact .step ih h2 (shut_mono h h3) h4 h5 h6
theorem ZoneR.mono {a b : List Bool} (h : ∀ j : Nat, a[j]? = some true -> b[j]? = some true) {st : List Step} {e : Int} (hx : ZoneR p pos b st e) : ZoneR p pos a st e := by
 obtain ⟨x, h1, h2, h3, h4, h5⟩ := hx
 exact ⟨x, h1.mono h, h2, h3, shut_mono h h4, h5⟩
theorem ZoneR.range (hv : Valid p) {st : List Step} {e : Int} (h : ZoneR p pos shut st e) : 0 <= e /\ e < p.elems.length := by
 obtain ⟨x, h1, rfl, _⟩ := h
 obtain ⟨w, hw⟩ := h1.from
 exact has_range (hv.join.next hw)
end
end Go.E
/- Plain Lean: what is reached is in order, outside the road, and no more if more signals are shut (law SideShut); a run that comes in from the side begins in it (law SideRuns). No condition. -/
namespace Go.E
open Go
section
variable {p : Plan} {n : Net} {pos : List Int} {shut : List Bool} {r : Road}
end
end Go.E
/- Plain Lean: a run that comes in from the side begins in an element that is reached (law SideRuns). No condition. -/
namespace Go.E
open Go
section
variable {p : Plan} {n : Net} {pos : List Int} {shut : List Bool} {r : Road}
end
end Go.E
/- Plain Lean: what the sides of a road reach: the document's answer and the program's are one (law SideReaches). No condition. -/
namespace Go.E
open Go
section
variable {p : Plan} {n : Net} {pos : List Int} {shut : List Bool} {r : Road}
end
end Go.E
/- The example that the laws of flanks look at, reckoned by the kernel. No condition. -/
namespace Go.E
open Go Go.Proofs
set_option maxRecDepth 100000
end Go.E
/- The example that the laws of proofs look at, reckoned by the kernel. No condition. -/
namespace Go.E
open Go Go.Proofs
set_option maxRecDepth 100000
end Go.E
/- Plain Lean: the flank of a road: how its search begins; a road without side ports (law FlankNone). No condition. -/
namespace Go.E
open Go
section
variable {p : Plan} {n : Net} {r : Road}
end
end Go.E
/- Plain Lean: the flank of a road: one round of its search; what holds behind it. No condition. -/
namespace Go.E
open Go
section
variable {p : Plan} {n : Net} {r : Road}
end
end Go.E
/- Plain Lean: the flank of a road: what holds of zone, guards and holds; the search ends (laws FlankAgain, FlankApart). No condition. -/
namespace Go.E
open Go
section
variable {p : Plan} {n : Net} {r : Road}
end
end Go.E
/- Plain Lean: zone, guards and holds of a road's flank (law FlankApart). No condition. -/
namespace Go.E
open Go
section
variable {p : Plan} {n : Net} {r : Road}
end
end Go.E
/- Plain Lean: one call of the document's search for the flank, in a clean form. No condition. -/
namespace Go.E
open Go
section
variable {p : Plan} {n : Net} {r : Road}
end
end Go.E
/- Plain Lean: the document's search for the flank and the program's loop: one call is as good as one port on the stack. No condition. -/
namespace Go.E
open Go
section
variable {p : Plan} {n : Net} {r : Road}
end
end Go.E
/- Plain Lean: the flank of a road: the document's answer and the program's are one (law FlankOfs). No condition. -/
namespace Go.E
open Go
section
variable {p : Plan} {n : Net} {r : Road}
end
end Go.E
/- Plain Lean: whether a road is ready, by the program and by the document (law FlankReady). No condition. -/
namespace Go.E
open Go
end Go.E
/- Plain Lean: a road that is ready is so no more when one thing is otherwise (law FlankOne). No condition. -/
namespace Go.E
open Go
section
variable {p : Plan} {n : Net} {r : Road}
end
end Go.E
/- Plain Lean: what a road's flank keeps: nobody comes in but from its zone (law FlankKeeps). No condition. -/
namespace Go.E
open Go
section
variable {p : Plan} {n : Net} {r : Road}
def atK (st : List Step) (vis : List (Port × Bool)) (l : List Port) (y : Port) : Prop := y ∈ l \/ seenB vis y = true \/ y.elem ∈ st.map (·.elem)
structure RecK (p : Plan) (nd g : List Need) (z h : List Int) (at_ : Port -> Prop) (x : Port) : Prop where
 held : 0 <= readsP p x /\ p.hard = false -> readsP p x ∈ h
 gate : ¬ (0 <= readsP p x /\ p.hard = false) -> kindP p x.elem ≠ 4
 toe : ¬ (0 <= readsP p x /\ p.hard = false) -> kindP p x.elem = 2 -> x.fin = 0 -> x.elem ∈ z /\ ∀ o, (o = 1 \/ o = 2) -> ∀ y, nextP p ⟨x.elem, o⟩ = some y -> at_ y
 leg : ¬ (0 <= readsP p x /\ p.hard = false) -> kindP p x.elem = 2 -> x.fin ≠ 0 -> (x.elem ∈ z /\ ∀ y, nextP p ⟨x.elem, 0⟩ = some y -> at_ y) \/ (⟨x.elem, wi64 (3 - x.fin)⟩ : Need) ∈ g
 other : ¬ (0 <= readsP p x /\ p.hard = false) -> kindP p x.elem ≠ 2 -> ∀ o, throughP p x.elem x.fin 0 = some o -> x.elem ∈ z /\ ∀ y, nextP p ⟨x.elem, o⟩ = some y -> at_ y
theorem RecK.mono {nd g g' : List Need} {z z' h h' : List Int} {a a' : Port -> Prop} {x : Port} (hk : RecK p nd g z h a x) (hg : ∀ m ∈ g, m ∈ g') (hz : ∀ m ∈ z, m ∈ z') (hh : ∀ m ∈ h, m ∈ h') (ha : ∀ y, a y -> a' y) : RecK p nd g' z' h' a' x :=
 ⟨fun c => hh _ (hk.held c), hk.gate, fun c k f => ⟨hz _ (hk.toe c k f).1, fun o ho y hy => ha _ ((hk.toe c k f).2 o ho y hy)⟩,
  fun c k f => (hk.leg c k f).imp (fun q => ⟨hz _ q.1, fun y hy => ha _ (q.2 y hy)⟩) (hg _), fun c k o ho => ⟨hz _ (hk.other c k o ho).1, fun y hy => ha _ ((hk.other c k o ho).2 y hy)⟩⟩
structure KI (p : Plan) (st : List Step) (nd : List Need) (b : Bool) (vis : List (Port × Bool)) (g : List Need) (z h : List Int) (l : List Port) : Prop where
 seen : b = false -> ∀ x, seenB vis x = true -> RecK p nd g z h (atK st vis l) x
 init : ∀ x y, x ∈ portsF p st -> nextP p x = some y -> atK st vis l y
theorem KI.next {st : List Step} {nd : List Need} {b b' : Bool} {vis vis' : List (Port × Bool)} {g g' : List Need} {z z' h h' : List Int} {l l' : List Port} {x : Port} (hi : KI p st nd b vis g z h (l ++ [x]))
  (hb : b' = false -> b = false) (hv : ∀ y, seenB vis y = true -> seenB vis' y = true) (hv2 : ∀ y, seenB vis' y = true -> seenB vis y = true \/ y = x) (hl : ∀ y ∈ l, y ∈ l') (hx : seenB vis' x = true \/ x.elem ∈ st.map (·.elem))
  (hg : ∀ m ∈ g, m ∈ g') (hz : ∀ m ∈ z, m ∈ z') (hh : ∀ m ∈ h, m ∈ h') (hr : b' = false -> seenB vis x = false -> seenB vis' x = true -> RecK p nd g' z' h' (atK st vis' l') x) : KI p st nd b' vis' g' z' h' l' := by
 have ha : ∀ y, atK st vis (l ++ [x]) y -> atK st vis' l' y := by
  rintro y (hy | hy | hy)
  .rcases List.mem_append.1 hy with hy | hy
   .exact .inl (hl y hy)
   .simp at hy; subst hy; exact .inr hx
  .exact .inr (.inl (hv y hy))
  .exact .inr (.inr hy)
 refine ⟨fun hb' y hy => ?_, fun y q hy hq => ha q (hi.init y q hy hq)⟩
 cases hs : seenB vis y with
 | true => exact (hi.seen (hb hb') y hs).mono hg hz hh ha
 | false =>
  rcases hv2 y hy with hy2 | rfl
  .rw [hs] at hy2; cases hy2
  .exact hr hb' hs hy
end
end Go.E
/- Plain Lean: whether a road's flank keeps all others out, told without an order (KeptG, GuardP), and the program's answer. No condition. -/
namespace Go.E
open Go
def backW (lay : Int -> Option Int) (e : Int) (w : Way) : List Int := if w.pos = 0 \/ lay e = none \/ lay e = some w.pos then [w.out] else []
def backsP (p : Plan) (lay : Int -> Option Int) (x : Port) : List Int := (outsP p x.elem x.fin).flatMap (backW lay x.elem)
def shutG (p : Plan) (holds : List Int) (x : Port) : Prop := p.hard = false /\ 0 <= readsP p x /\ readsP p x ∈ holds
instance (p : Plan) (holds : List Int) (x : Port) : Decidable (shutG p holds x) := by unfold shutG; infer_instance
def goodG (p : Plan) (lay : Int -> Option Int) (zone : List Int) (x : Port) : Prop := kindP p x.elem ≠ 4 /\ (backsP p lay x ≠ [] -> x.elem ∈ zone)
instance (p : Plan) (lay : Int -> Option Int) (zone : List Int) (x : Port) : Decidable (goodG p lay zone x) := by unfold goodG; infer_instance
inductive ArrG (p : Plan) (lay : Int -> Option Int) (holds : List Int) (st : List Step) : Port -> Prop
 | init {x y : Port} : x ∈ portsF p st -> nextP p x = some y -> ArrG p lay holds st y
 | step {x y : Port} {o : Int} : ArrG p lay holds st x -> x.elem ∉ st.map (·.elem) -> ¬ shutG p holds x -> o ∈ backsP p lay x -> nextP p ⟨x.elem, o⟩ = some y -> ArrG p lay holds st y
def KeptG (p : Plan) (lay : Int -> Option Int) (holds zone : List Int) (st : List Step) : Prop := ∀ x, ArrG p lay holds st x -> x.elem ∉ st.map (·.elem) -> ¬ shutG p holds x -> goodG p lay zone x
section
variable {p : Plan} {n : Net} {r : Road} {lay : Int -> Option Int} {holds zone : List Int} {st : List Step}
structure GI (p : Plan) (lay : Int -> Option Int) (holds zone : List Int) (st : List Step) (V : Port -> Prop) (q : List Port) : Prop where
 arr : ∀ x ∈ q, ArrG p lay holds st x
 full : ∀ x, V x -> x.elem ∉ st.map (·.elem) -> ¬ shutG p holds x -> goodG p lay zone x /\ ∀ o ∈ backsP p lay x, ∀ y, nextP p ⟨x.elem, o⟩ = some y -> y ∈ q \/ V y
 init : ∀ x y, x ∈ portsF p st -> nextP p x = some y -> y ∈ q \/ V y
theorem GI.done {V : Port -> Prop} (h : GI p lay holds zone st V []) : KeptG p lay holds zone st := by
 have key : ∀ x, ArrG p lay holds st x -> V x := by
  intro x hx
  induction hx with
  | init h1 h2 => exact (h.init _ _ h1 h2).resolve_left (by simp)
  | step _ h2 h3 h4 h5 ih => exact ((h.full _ ih h2 h3).2 _ h4 _ h5).resolve_left (by simp)
 exact fun x hx h1 h2 => (h.full x (key x hx) h1 h2).1
theorem GI.next {V V' : Port -> Prop} {x : Port} {q q' : List Port} (h : GI p lay holds zone st V (x :: q)) (hV : ∀ y, V y -> V' y) (hx : V' x) (hV2 : ∀ y, V' y -> V y \/ y = x) (hq : ∀ y ∈ q, y ∈ q') (hq2 : ∀ y ∈ q', ArrG p lay holds st y)
  (hf : ¬ V x -> x.elem ∉ st.map (·.elem) -> ¬ shutG p holds x -> goodG p lay zone x /\ ∀ o ∈ backsP p lay x, ∀ y, nextP p ⟨x.elem, o⟩ = some y -> y ∈ q' \/ V' y) : GI p lay holds zone st V' q' := by
 have keep : ∀ y, y ∈ x :: q \/ V y -> y ∈ q' \/ V' y := by
  rintro y (hy | hy)
  .rcases List.mem_cons.1 hy with rfl | hy
   .exact .inr hx
   .exact .inl (hq y hy)
  .exact .inr (hV y hy)
 refine ⟨hq2, fun y hy h1 h2 => ?_, fun a b ha hb => keep b (h.init a b ha hb)⟩
 by_cases c : V y
 .have := h.full y c h1 h2
  exact ⟨this.1, fun o ho z hz => keep z (this.2 o ho z hz)⟩
 .rcases hV2 y hy with hy2 | rfl
  .exact absurd hy2 c
  .exact hf c h1 h2
def nextsP (p : Plan) (e : Int) (l : List Int) : List Port := l.flatMap fun o => match nextP p ⟨e, o⟩ with
 | some y => [y]
 | none => []
theorem nextsP_mem {e o : Int} {l : List Int} {y : Port} : y ∈ nextsP p e l ↔ ∃ o ∈ l, nextP p ⟨e, o⟩ = some y := by
 unfold nextsP
 rw [List.mem_flatMap]
 constructor
 .rintro ⟨o, ho, hy⟩
  cases hx : nextP p ⟨e, o⟩ with
  | none => rw [hx] at hy; cases hy
  | some z => rw [hx] at hy; simp at hy; subst hy; exact ⟨o, ho, hx⟩
 .rintro ⟨o, ho, hy⟩
  exact ⟨o, ho, by rw [hy]; simp⟩
theorem GI.go {V V' : Port -> Prop} {x : Port} {q : List Port} (h : GI p lay holds zone st V (x :: q)) (h1 : x.elem ∉ st.map (·.elem)) (h2 : ¬ shutG p holds x) (hg : goodG p lay zone x) (hV : ∀ y, V' y ↔ V y \/ y = x) : GI p lay holds zone st V' (q ++ nextsP p x.elem (backsP p lay x)) := by
 have hx := h.arr x (by simp)
 refine h.next (fun y hy => (hV y).2 (.inl hy)) ((hV x).2 (.inr rfl)) (fun y hy => (hV y).1 hy) (fun y hy => List.mem_append_left _ hy) (fun y hy => ?_) (fun _ _ _ => ⟨hg, fun o ho y hy => .inl (List.mem_append_right _ (nextsP_mem (o := o) |>.2 ⟨o, ho, hy⟩))⟩)
 rcases List.mem_append.1 hy with hy | hy
 .exact h.arr y (by simp [hy])
 .obtain ⟨o, ho, hy⟩ := (nextsP_mem (o := 0)).1 hy
  exact .step hx h1 h2 ho hy
end
end Go.E
/- Plain Lean: a road that is guarded keeps all out, whatever way other points lie; what a flank keeps is guarded. No condition. -/
namespace Go.E
open Go
section
variable {p : Plan} {n : Net} {r : Road} {lay : Int -> Option Int} {holds zone : List Int} {st : List Step} {lie : List Int} {shut : List Bool}
end
end Go.E
/- Plain Lean: whether a road is guarded: the program's answer and the document's are one. No condition. -/
namespace Go.E
open Go
def okG (p : Plan) (m : Need) : Prop := kindP p m.elem = 2 /\ (m.pos = 1 \/ m.pos = 2)
instance (p : Plan) (m : Need) : Decidable (okG p m) := by unfold okG; infer_instance
section
variable {p : Plan} {n : Net} {r : Road}
end
end Go.E
/- Plain Lean: whether a road is guarded, by the program and by the document (law ProofGuards); what is guarded keeps (law ProofKeeps). No condition. -/
namespace Go.E
open Go
section
variable {p : Plan} {n : Net} {r : Road}
end
end Go.E
/- Plain Lean: what is wrong first with a chart of a valid plan: the program's answer and the document's are one (checkF). No condition. -/
namespace Go.E
open Go
section
variable {p : Plan} {n : Net}
end
end Go.E
/- Plain Lean: the chart of a valid plan with one thing of one road turned (law ProofTurned). No condition. -/
namespace Go.E
open Go
section
variable {p : Plan} {n : Net}
end
end Go.E
