/- What an argument of each type of these laws reads as. Written by a program (genrow.py). No condition. -/
import Derived.KernelRfl
import Derived.Test.YtoofmfiallkmbaaJ4
set_option linter.unusedVariables false
set_option linter.unusedSimpArgs false
namespace Go.E
open Go Go.RowKit Go.Proofs

def okB (_ : Bool) : Prop := True

def okI (k : IntKind) (n : Int) : Prop := (Lit.int k n).wf = true

def okL {α : Type} (P : α → Prop) (l : List α) : Prop := l.length ≤ maxLen ∧ ∀ x ∈ l, P x

theorem ty_rowsK {α : Type} {enc : α → List DV} {ok : α → Prop} {T : List DV → Prop} (h : ∀ ds, T ds → ∃ x, ds = enc x ∧ ok x) : ∀ l : List (List DV), (∀ x ∈ l, T x) → ∃ xs : List α, l = xs.map enc ∧ ∀ x ∈ xs, ok x
  | [], _ => ⟨[], rfl, by simp⟩
  | a :: l, hl => by
    obtain ⟨x, hx, hk⟩ := h a (hl a (by simp))
    obtain ⟨xs, hxs, hks⟩ := ty_rowsK h l fun y hy => hl y (by simp [hy])
    exact ⟨x :: xs, by rw [hx, hxs]; rfl, by simpa using ⟨hk, hks⟩⟩

theorem ttf_3 : ∃ ti, env.tt 3 = some ti ∧ ti.sh = .int .i64 ∧ ti.size = 1 := ⟨_, rfl, rfl, rfl⟩

theorem ty_3 : ∀ (n : Nat) (ds : List DV), Ty env n 3 ds → ∃ x : Int, ds = intC x ∧ (okI .i64) x
  | 0, _, h => h.elim
  | n + 1, ds, h => by
    obtain ⟨ti, e1, e2, -⟩ := ttf_3
    simp only [Ty, e1, e2] at h
    obtain ⟨x, hx, rfl⟩ := h
    exact ⟨x, rfl, hx⟩

theorem good_3 : goodT env 8 3 = true := by kernel_rfl

theorem ttf_4 : ∃ ti, env.tt 4 = some ti ∧ ti.sh = .bool ∧ ti.size = 1 := ⟨_, rfl, rfl, rfl⟩

theorem ty_4 : ∀ (n : Nat) (ds : List DV), Ty env n 4 ds → ∃ x : Bool, ds = boolC x ∧ okB x
  | 0, _, h => h.elim
  | n + 1, ds, h => by
    obtain ⟨ti, e1, e2, -⟩ := ttf_4
    simp only [Ty, e1, e2] at h
    obtain ⟨x, rfl⟩ := h
    exact ⟨x, rfl, trivial⟩

theorem ttf_34 : ∃ ti, env.tt 34 = some ti ∧ ti.sh = .slc 3 ∧ ti.size = 1 := ⟨_, rfl, rfl, rfl⟩

theorem ty_34 : ∀ (n : Nat) (ds : List DV), Ty env n 34 ds → ∃ x : (List Int), ds = (rowC 1 intC) x ∧ (okL (okI .i64)) x
  | 0, _, h => h.elim
  | n + 1, ds, h => by
    obtain ⟨ti, e1, e2, -⟩ := ttf_34
    simp only [Ty, e1, e2] at h
    obtain ⟨te, l, e3, hl, rfl, h⟩ := h
    obtain ⟨tj, f1, -, f3⟩ := ttf_3
    rw [f1] at e3; cases e3
    obtain ⟨xs, rfl, hk⟩ := ty_rowsK (ty_3 n) l h
    rw [f3]
    exact ⟨xs, rfl, by simpa using hl, hk⟩

def okStep (x : Step) : Prop := (okI .i64) x.elem ∧ (okI .i64) x.in_ ∧ (okI .i64) x.out

theorem ttf_63 : ∃ ti, env.tt 63 = some ti ∧ ti.sh = .struct [(0, 3), (1, 3), (2, 3)] ∧ ti.size = 3 := ⟨_, rfl, rfl, rfl⟩

theorem ty_63 : ∀ (n : Nat) (ds : List DV), Ty env n 63 ds → ∃ x : Step, ds = stepC x ∧ okStep x
  | 0, _, h => h.elim
  | n + 1, ds, h => by
    obtain ⟨ti, e1, e2, -⟩ := ttf_63
    simp only [Ty, e1, e2] at h
    simp only [TyL] at h
    obtain ⟨a0, b0, rfl, h0, ⟨a1, b1, rfl, h1, ⟨a2, b2, rfl, h2, rfl⟩⟩⟩ := h
    obtain ⟨x0, rfl, k0⟩ := ty_3 n _ h0
    obtain ⟨x1, rfl, k1⟩ := ty_3 n _ h1
    obtain ⟨x2, rfl, k2⟩ := ty_3 n _ h2
    exact ⟨⟨x0, x1, x2⟩, rfl, k0, k1, k2⟩

theorem ttf_32 : ∃ ti, env.tt 32 = some ti ∧ ti.sh = .slc 63 ∧ ti.size = 1 := ⟨_, rfl, rfl, rfl⟩

theorem ty_32 : ∀ (n : Nat) (ds : List DV), Ty env n 32 ds → ∃ x : (List Step), ds = (rowC 3 stepC) x ∧ (okL okStep) x
  | 0, _, h => h.elim
  | n + 1, ds, h => by
    obtain ⟨ti, e1, e2, -⟩ := ttf_32
    simp only [Ty, e1, e2] at h
    obtain ⟨te, l, e3, hl, rfl, h⟩ := h
    obtain ⟨tj, f1, -, f3⟩ := ttf_63
    rw [f1] at e3; cases e3
    obtain ⟨xs, rfl, hk⟩ := ty_rowsK (ty_63 n) l h
    rw [f3]
    exact ⟨xs, rfl, by simpa using hl, hk⟩

def okNeed (x : Need) : Prop := (okI .i64) x.elem ∧ (okI .i64) x.pos

theorem ttf_46 : ∃ ti, env.tt 46 = some ti ∧ ti.sh = .struct [(0, 3), (1, 3)] ∧ ti.size = 2 := ⟨_, rfl, rfl, rfl⟩

theorem ty_46 : ∀ (n : Nat) (ds : List DV), Ty env n 46 ds → ∃ x : Need, ds = needC x ∧ okNeed x
  | 0, _, h => h.elim
  | n + 1, ds, h => by
    obtain ⟨ti, e1, e2, -⟩ := ttf_46
    simp only [Ty, e1, e2] at h
    simp only [TyL] at h
    obtain ⟨a0, b0, rfl, h0, ⟨a1, b1, rfl, h1, rfl⟩⟩ := h
    obtain ⟨x0, rfl, k0⟩ := ty_3 n _ h0
    obtain ⟨x1, rfl, k1⟩ := ty_3 n _ h1
    exact ⟨⟨x0, x1⟩, rfl, k0, k1⟩

theorem ttf_33 : ∃ ti, env.tt 33 = some ti ∧ ti.sh = .slc 46 ∧ ti.size = 1 := ⟨_, rfl, rfl, rfl⟩

theorem ty_33 : ∀ (n : Nat) (ds : List DV), Ty env n 33 ds → ∃ x : (List Need), ds = (rowC 2 needC) x ∧ (okL okNeed) x
  | 0, _, h => h.elim
  | n + 1, ds, h => by
    obtain ⟨ti, e1, e2, -⟩ := ttf_33
    simp only [Ty, e1, e2] at h
    obtain ⟨te, l, e3, hl, rfl, h⟩ := h
    obtain ⟨tj, f1, -, f3⟩ := ttf_46
    rw [f1] at e3; cases e3
    obtain ⟨xs, rfl, hk⟩ := ty_rowsK (ty_46 n) l h
    rw [f3]
    exact ⟨xs, rfl, by simpa using hl, hk⟩

def okRoad (x : Road) : Prop := (okI .i64) x.frm ∧ (okI .i64) x.to ∧ (okI .i64) x.fin ∧ (okL okStep) x.steps ∧ (okL okNeed) x.needs ∧ (okL okNeed) x.guards ∧ (okL (okI .i64)) x.zone ∧ (okL (okI .i64)) x.holds ∧ okB x.bare

theorem ttf_36 : ∃ ti, env.tt 36 = some ti ∧ ti.sh = .struct [(0, 3), (1, 3), (2, 3), (3, 32), (4, 33), (5, 33), (6, 34), (7, 34), (8, 4)] ∧ ti.size = 9 := ⟨_, rfl, rfl, rfl⟩

theorem ty_36 : ∀ (n : Nat) (ds : List DV), Ty env n 36 ds → ∃ x : Road, ds = roadC x ∧ okRoad x
  | 0, _, h => h.elim
  | n + 1, ds, h => by
    obtain ⟨ti, e1, e2, -⟩ := ttf_36
    simp only [Ty, e1, e2] at h
    simp only [TyL] at h
    obtain ⟨a0, b0, rfl, h0, ⟨a1, b1, rfl, h1, ⟨a2, b2, rfl, h2, ⟨a3, b3, rfl, h3, ⟨a4, b4, rfl, h4, ⟨a5, b5, rfl, h5, ⟨a6, b6, rfl, h6, ⟨a7, b7, rfl, h7, ⟨a8, b8, rfl, h8, rfl⟩⟩⟩⟩⟩⟩⟩⟩⟩ := h
    obtain ⟨x0, rfl, k0⟩ := ty_3 n _ h0
    obtain ⟨x1, rfl, k1⟩ := ty_3 n _ h1
    obtain ⟨x2, rfl, k2⟩ := ty_3 n _ h2
    obtain ⟨x3, rfl, k3⟩ := ty_32 n _ h3
    obtain ⟨x4, rfl, k4⟩ := ty_33 n _ h4
    obtain ⟨x5, rfl, k5⟩ := ty_33 n _ h5
    obtain ⟨x6, rfl, k6⟩ := ty_34 n _ h6
    obtain ⟨x7, rfl, k7⟩ := ty_34 n _ h7
    obtain ⟨x8, rfl, k8⟩ := ty_4 n _ h8
    exact ⟨⟨x0, x1, x2, x3, x4, x5, x6, x7, x8⟩, rfl, k0, k1, k2, k3, k4, k5, k6, k7, k8⟩

theorem good_36 : goodT env 8 36 = true := by kernel_rfl

end Go.E
/- Plain Lean: loops over lists; what the document's answer says of plans (chapters 2 to 4). No condition. -/
namespace Go.E
open Go

theorem wi64_id {n : Int} (h1 : -9223372036854775808 ≤ n) (h2 : n ≤ 9223372036854775807) : wi64 n = n := by
  unfold wi64 IntKind.wrap
  simp only [IntKind.signed, IntKind.bits]
  simp
  omega

section
variable {α β σ γ : Type}

theorem loopR_inl {step : σ → Option (σ ⊕ β)} {s s' : σ} (h : step s = some (.inl s')) : loopR step s = loopR step s' := by rw [loopR_eq, h]

theorem loopR_inr {step : σ → Option (σ ⊕ β)} {s : σ} {b : β} (h : step s = some (.inr b)) : loopR step s = some b := by rw [loopR_eq, h]

/-- A loop that counts up to n, with what holds ahead of each round. -/
theorem loop_up {step : σ → Option (σ ⊕ β)} {Post : β → Prop} (I : Nat → σ → Prop) (n : Nat)
    (h : ∀ k s, I k s → (∃ b, step s = some (.inr b) ∧ Post b) ∨ (k < n ∧ ∃ s', step s = some (.inl s') ∧ I (k + 1) s')) {s : σ} (h0 : I 0 s) : ∃ b, loopR step s = some b ∧ Post b := by
  have key : ∀ m k s, n - k ≤ m → I k s → ∃ b, loopR step s = some b ∧ Post b := by
    intro m
    induction m with
    | zero =>
      intro k s hm hI
      rcases h k s hI with ⟨b, h1, h2⟩ | ⟨h1, _⟩
      · exact ⟨b, loopR_inr h1, h2⟩
      · omega
    | succ m ih =>
      intro k s hm hI
      rcases h k s hI with ⟨b, h1, h2⟩ | ⟨h1, s', h2, h3⟩
      · exact ⟨b, loopR_inr h1, h2⟩
      · rw [loopR_inl h2]
        exact ih (k + 1) s' (by omega) h3
  exact key n 0 s (by omega) h0

/-- A loop over the indices of a list, with something that it carries. -/
theorem loop_st {l : List α} {step : Int × γ → Option (Int × γ ⊕ β)} {Post : β → Prop} (I : Nat → γ → Prop)
    (hend : ∀ c, I l.length c → ∃ b, step ((l.length : Int), c) = some (.inr b) ∧ Post b)
    (hstep : ∀ (i : Nat) a c, l[i]? = some a → I i c → (∃ b, step ((i : Int), c) = some (.inr b) ∧ Post b) ∨ ∃ c', step ((i : Int), c) = some (.inl (((i + 1 : Nat) : Int), c')) ∧ I (i + 1) c') {c : γ} (h0 : I 0 c) :
    ∃ b, loopR step ((0 : Int), c) = some b ∧ Post b := by
  refine loop_up (fun k s => s.1 = (k : Int) ∧ k ≤ l.length ∧ I k s.2) l.length ?_ ⟨rfl, Nat.zero_le _, h0⟩
  rintro k ⟨s, c⟩ ⟨hs, hk, hI⟩
  simp only at hs hI
  subst hs
  by_cases he : k = l.length
  · subst he
    exact .inl (hend c hI)
  · have hk' : k < l.length := by omega
    rcases hstep k _ c (List.getElem?_eq_getElem hk') hI with h | ⟨c', h1, h2⟩
    · exact .inl h
    · exact .inr ⟨hk', _, h1, rfl, by omega, h2⟩

theorem take_map_succ {f : α → β} {l : List α} {i : Nat} {a : α} (h : l[i]? = some a) : (l.take (i + 1)).map f = (l.take i).map f ++ [f a] := by
  rw [List.take_add_one, h]; simp

theorem idx_nat {l : List α} {i : Nat} : idx l (i : Int) = l[i]? := rfl

theorem wi64_succ {i : Nat} (h : i < 1000000000) : wi64 ((i : Int) + 1) = ((i + 1 : Nat) : Int) := by rw [wi64_id] <;> omega

end

/-! ### plans, as the document reads them -/
def endsF (k : Int) : Int := if k = 1 then 2 else if k = 2 then 3 else if k = 3 then 4 else if k = 4 then 1 else 0

def kindP (p : Plan) (e : Int) : Int := ((idx p.elems e).map (·.kind)).getD 0

def hasP (p : Plan) (x : Port) : Bool := decide (0 ≤ x.fin) && decide (x.fin < endsF (kindP p x.elem))

/-- What a port is joined to. -/
def nextL : List Join → Port → Option Port
  | [], _ => none
  | j :: r, x => if j.a = x then some j.b else if j.b = x then some j.a else nextL r x

def nextP (p : Plan) (x : Port) : Option Port := nextL p.joins x

end Go.E
/- Plain Lean: of which plans the document's check answers, and what a plan is that it takes. No condition. -/
namespace Go.E
open Go

theorem dlt {α : Type} {l : List α} {i : Nat} {a : α} (h : l[i]? = some a) : decide ((i : Int) < (l.length : Int)) = true := by
  have := (List.getElem?_eq_some_iff.1 h).1
  simpa using this

theorem dge {α : Type} (l : List α) : decide ((l.length : Int) < (l.length : Int)) = false := by simp

theorem ilt {α : Type} {l : List α} {i : Nat} {a : α} (h : l[i]? = some a) : i < l.length := (List.getElem?_eq_some_iff.1 h).1

/-! ### names -/
end Go.E
/- Plain Lean: the numbers, names and joins of a plan that the document's check takes. No condition. -/
namespace Go.E
open Go

theorem appI_ok {α : Type} {l m : List α} (h : l.length + m.length ≤ 4294967296) : appI l m = some (l ++ m) := by simp [appI, h]

/-! ### no text twice -/
end Go.E
/- Plain Lean: the joins and signals of a plan that the document's check takes. No condition. -/
namespace Go.E
open Go

def portsP (p : Plan) : List Port := p.joins.flatMap fun j => [j.a, j.b]

structure JoinP (p : Plan) : Prop where
  has : ∀ (i : Nat) x, (portsP p)[i]? = some x → hasP p x = true
  dist : ∀ (i k : Nat) x y, k < i → (portsP p)[i]? = some x → (portsP p)[k]? = some y → y ≠ x
  gate : ∀ (i : Nat) e, p.elems[i]? = some e → e.kind = 4 → ∃ y, nextP p ⟨(i : Int), 0⟩ = some y ∧ kindP p y.elem ≠ 4

theorem flat_len2 (l : List Join) : (l.flatMap fun j => [j.a, j.b]).length = 2 * l.length := by
  induction l with
  | nil => rfl
  | cons a l ih => simp only [List.flatMap_cons, List.length_append, ih, List.length_cons, List.length_nil]; omega

/-! ### signals -/
end Go.E
/- Plain Lean: the lines and lengths of a plan that the document's check takes; the check as a whole. No condition. -/
namespace Go.E
open Go

theorem nextL_mem : ∀ {l : List Join} {x y : Port}, nextL l x = some y → y ∈ l.flatMap fun j => [j.a, j.b]
  | j :: r, x, y, h => by
    simp only [nextL] at h
    split at h
    · cases h; simp
    · split at h
      · cases h; simp
      · have := nextL_mem h; simp only [List.flatMap_cons, List.mem_append]; exact .inr this

theorem JoinP.next {p : Plan} (hj : JoinP p) {x y : Port} (h : nextP p x = some y) : hasP p y = true := by
  obtain ⟨i, hi⟩ := List.mem_iff_getElem?.1 (nextL_mem h)
  exact hj.has i y hi

/-- Whether a port leads to an element. -/
def meetsP (p : Plan) (x : Port) (f : Int) : Prop := ∃ y, nextP p x = some y ∧ y.elem = f

instance (p : Plan) (x : Port) (f : Int) : Decidable (meetsP p x f) :=
  match h : nextP p x with
  | some y => if e : y.elem = f then isTrue ⟨y, h, e⟩ else isFalse fun ⟨z, hz, ez⟩ => by rw [h] at hz; cases hz; exact e ez
  | none => isFalse fun ⟨z, hz, _⟩ => by rw [h] at hz; cases hz
end Go.E
/- Plain Lean: the document's check answers of every plan that is not too long; what a plan is that it takes (Valid). No condition. -/
namespace Go.E
open Go

/-! ### lengths -/
/-! ### the whole -/
end Go.E
/- Plain Lean: the program's check takes each valid plan: numbers, names, joins. No condition. -/
namespace Go.E
open Go

section
variable {κ υ : Type} [BEq κ] [PartialEquivBEq κ]
end

instance : PartialEquivBEq ByteArray where
  symm {a b} h := by
    have : (a.toList == b.toList) = true := h
    show (b.toList == a.toList) = true
    simpa using (by simpa using this : a.toList = b.toList).symm
  trans {a b c} h g := by
    have h' : (a.toList == b.toList) = true := h
    have g' : (b.toList == c.toList) = true := g
    show (a.toList == c.toList) = true
    simp only [beq_iff_eq] at h' g' ⊢
    exact h'.trans g'
/-! ### names -/
end Go.E
/- Plain Lean: the program's check takes each valid plan: no text twice, joins, signals, lines, lengths. No condition. -/
namespace Go.E
open Go

/-! ### no name twice -/
/-! ### joins -/
/-- Where the ports of a join stand. -/
theorem ports_at {p : Plan} {i : Nat} {j : Join} (h : p.joins[i]? = some j) : (portsP p)[2 * i]? = some j.a ∧ (portsP p)[2 * i + 1]? = some j.b := by
  have key : ∀ (l : List Join) (i : Nat), l[i]? = some j → (l.flatMap fun j => [j.a, j.b])[2 * i]? = some j.a ∧ (l.flatMap fun j => [j.a, j.b])[2 * i + 1]? = some j.b := by
    intro l
    induction l with
    | nil => intro i h; simp at h
    | cons k l ih =>
      intro i h
      cases i with
      | zero => cases h; simp
      | succ i =>
        have := ih i (by simpa using h)
        simp only [List.flatMap_cons, List.cons_append, List.nil_append]
        exact ⟨by rw [show 2 * (i + 1) = 2 * i + 1 + 1 by omega]; simpa using this.1, by rw [show 2 * (i + 1) + 1 = 2 * i + 1 + 1 + 1 by omega]; simpa using this.2⟩
  exact key p.joins i h

theorem JoinP.old {p : Plan} (hj : JoinP p) {i : Nat} {j : Join} (h : p.joins[i]? = some j) :
    j.a ∉ ((p.joins.take i).flatMap fun j => [j.a, j.b]) ∧ j.b ∉ ((p.joins.take i).flatMap fun j => [j.a, j.b]) ∧ j.a ≠ j.b := by
  obtain ⟨h1, h2⟩ := ports_at h
  have hlt := ilt h
  have pre : ∀ x, x ∈ ((p.joins.take i).flatMap fun j => [j.a, j.b]) → ∃ k, k < 2 * i ∧ (portsP p)[k]? = some x := by
    intro x hx
    obtain ⟨k, hk⟩ := List.mem_iff_getElem?.1 hx
    have hkl := ilt hk
    rw [flat_len2, List.length_take] at hkl
    refine ⟨k, by omega, ?_⟩
    have : portsP p = ((p.joins.take i).flatMap fun j => [j.a, j.b]) ++ ((p.joins.drop i).flatMap fun j => [j.a, j.b]) := by
      rw [← List.flatMap_append, List.take_append_drop]; rfl
    rw [this, List.getElem?_append_left (by rw [flat_len2, List.length_take]; omega)]
    exact hk
  refine ⟨fun hx => ?_, fun hx => ?_, ?_⟩
  · obtain ⟨k, hk, e⟩ := pre _ hx; exact hj.dist _ _ _ _ hk h1 e rfl
  · obtain ⟨k, hk, e⟩ := pre _ hx; exact hj.dist _ _ _ _ (by omega) h2 e rfl
  · exact hj.dist _ _ _ _ (by omega : 2 * i < 2 * i + 1) h2 h1

end Go.E
/- Plain Lean: the program's check takes each valid plan. No condition. -/
namespace Go.E
open Go

end Go.E
/- Plain Lean: the net that the program makes of a valid plan. No condition. -/
namespace Go.E
open Go

end Go.E
/- Plain Lean: sorted rows without repetition. No condition. -/
namespace Go.E
open Go

end Go.E
/- Plain Lean: what a net says is what the plan says. No condition. -/
namespace Go.E
open Go

section
variable {p : Plan} {n : Net}
end
end Go.E
/- Plain Lean: RoadFinds answers true, for every argument. No condition. -/
namespace Go.E
open Go

/-! ### rows that are one -/
/-- Roads that are looked at. -/
structure LightR (r : Road) : Prop where
  steps : r.steps.length ≤ 1000
  needs : r.needs.length ≤ 1000
  guards : r.guards.length ≤ 1000
  zone : r.zone.length ≤ 1000
  holds : r.holds.length ≤ 1000

theorem light_total (r : Road) : ∃ b, g_L7_Light r = some b ∧ (b = true → LightR r ∧ r.steps.length ≤ 40) := by
  unfold g_L7_Light
  by_cases h1 : (r.steps.length : Int) ≤ 40
  · by_cases h2 : (r.needs.length : Int) ≤ 40
    · by_cases h3 : (r.guards.length : Int) ≤ 40
      · by_cases h4 : (r.zone.length : Int) ≤ 60
        · by_cases h5 : (r.holds.length : Int) ≤ 60
          · exact ⟨true, by simp [h1, h2, h3, h4, h5], fun _ => ⟨⟨by omega, by omega, by omega, by omega, by omega⟩, by omega⟩⟩
          · exact ⟨false, by simp [h1, h2, h3, h4, h5], fun h => by cases h⟩
        · exact ⟨false, by simp [h1, h2, h3, h4], fun h => by cases h⟩
      · exact ⟨false, by simp [h1, h2, h3], fun h => by cases h⟩
    · exact ⟨false, by simp [h1, h2], fun h => by cases h⟩
  · exact ⟨false, by simp [h1], fun h => by cases h⟩

/-! ### find, elements, onto -/
theorem map_loop {r : Road} (hl : r.steps.length < 1000000) {step : Int × List Int → Option ((Int × List Int) ⊕ List Int)}
    (h : ∀ (i : Int) (o : List Int), step (i, o) = bif decide (i < (r.steps.length : Int)) then (idx r.steps i).bind fun y => (appI o [y.elem]).bind fun z => some (.inl (wi64 (i + 1), z)) else some (.inr o)) : loopR step (0, []) = some (r.steps.map (·.elem)) := by
  obtain ⟨b, h1, h2⟩ := loop_st (l := r.steps) (step := step) (Post := fun b => b = r.steps.map (·.elem)) (fun i o => o = (r.steps.take i).map (·.elem)) (c := [])
    (fun c hc => ⟨c, by rw [h]; simp [dge], by rw [hc, List.take_length]⟩)
    (fun i a c ha hc => by
      have := ilt ha
      have hlen : c.length ≤ i := by rw [hc]; simp; omega
      refine .inr ⟨c ++ [a.elem], ?_, by rw [hc, take_map_succ ha]⟩
      rw [h]
      simp only [dlt ha, cond_true, idx_nat, ha, Option.bind_some]
      rw [appI_ok (by simp; omega)]
      simp only [Option.bind_some, wi64_succ (show i < 1000000000 by omega)])
    (by simp)
  rw [h1, h2]

theorem Elems_eq (r : Road) (hl : r.steps.length < 1000000) : g_road_Elems r = some (r.steps.map (·.elem)) := map_loop hl fun _ _ => rfl

end Go.E
/- Plain Lean: the roads of a signal: the document's search and the program's are one. No condition. -/
namespace Go.E
open Go

/-! ### the document's search -/
end Go.E
/- Plain Lean: the program's search for roads gives what the document's does. No condition. -/
namespace Go.E
open Go

section
variable {p : Plan} {n : Net}

/-! ### the program's search: what comes of a state -/
end
end Go.E
/- Plain Lean: whether something is a road: the program's answer and the document's are one. No condition. -/
namespace Go.E
open Go

theorem index_loop {α : Type} {l : List α} {f : α → Bool} (hl : l.length < 1000000) {step : Int → Option (Int ⊕ Int)}
    (h0 : step (l.length : Int) = some (.inr (-1))) (h : ∀ (i : Nat) a, l[i]? = some a → step (i : Int) = if f a = true then some (.inr (i : Int)) else some (.inl ((i + 1 : Nat) : Int))) :
    ∃ t, loopR step 0 = some t ∧ ((t = -1 ∧ l.find? f = none) ∨ ∃ a, 0 ≤ t ∧ l.find? f = some a ∧ idx l t = some a) := by
  have key : ∀ (r : List α) (i : Nat), l.drop i = r → i ≤ l.length → ∃ t, loopR step (i : Int) = some t ∧ ((t = -1 ∧ r.find? f = none) ∨ ∃ a, 0 ≤ t ∧ r.find? f = some a ∧ idx l t = some a) := by
    intro r
    induction r with
    | nil =>
      intro i hd hi
      have : i = l.length := by have := congrArg List.length hd; simp at this; omega
      subst this
      exact ⟨-1, loopR_inr h0, .inl ⟨rfl, rfl⟩⟩
    | cons a r ih =>
      intro i hd hi
      have hlt : i < l.length := by have := congrArg List.length hd; simp at this; omega
      have ha : l[i]? = some a := by
        have : (l.drop i)[0]? = some a := by rw [hd]; rfl
        simpa using this
      have hr : l.drop (i + 1) = r := by
        have : (l.drop i).drop 1 = r := by rw [hd]; rfl
        rwa [List.drop_drop] at this
      by_cases c : f a = true
      · exact ⟨i, loopR_inr (by rw [h i a ha, if_pos c]), .inr ⟨a, by omega, by simp [c], by rw [idx_nat, ha]⟩⟩
      · obtain ⟨t, h1, h2⟩ := ih (i + 1) hr (by omega)
        refine ⟨t, by rw [loopR_inl (by rw [h i a ha, if_neg c]), h1], ?_⟩
        simpa [List.find?_cons, c] using h2
  exact key l 0 rfl (Nat.zero_le _)

section
variable {p : Plan} {n : Net}

/-! ### the document's test -/
end
end Go.E
/- Plain Lean: whether something is a road, as the document says; the roads of a signal are roads, and none is told twice. No condition. -/
namespace Go.E
open Go

section
variable {p : Plan} {n : Net}

/-! ### the roads of a signal are roads -/
/-! ### none is told twice -/
end
end Go.E
/- Plain Lean: RoadOfs, RoadAlls, RoadIsOne, RoadTurned and RoadEach answer true, for every argument. No condition. -/
namespace Go.E
open Go

section
variable {p : Plan} {n : Net}

end

end Go.E
/- Plain Lean: RoadRuns answers true, for every argument. No condition. -/
namespace Go.E
open Go

section
variable {p : Plan} {n : Net}

/-! ### positions as they are needed -/
/-! ### the needs of steps -/
end
end Go.E
/- Reach hands the keys of a map out in whatever order and sorts them: what it answers has no order in it; the example that the laws of sides look at. No condition. -/
namespace Go.E
open Go Go.Proofs

/-- The keys of a map, sorted. -/
def keysF (m : List (Int × Bool)) : Option (List Int) := if m.length ≤ 4294967296 then some (isort (m.map (·.1))) else none

theorem isort_congr {a b : List Int} (h : a.Perm b) : isort a = isort b :=
  List.Perm.eq_of_pairwise (le := fun a b : Int => a ≤ b) (fun a b _ _ h1 h2 => Int.le_antisymm h1 h2) (isort_rise a) (isort_rise b) ((isort_perm a).trans (h.trans (isort_perm b).symm))

theorem erase_perm {α : Type} : ∀ {l : List α} {j : Nat} {y : α}, l[j]? = some y → (y :: l.eraseIdx j).Perm l
  | x :: l, 0, y, h => by
    rw [List.getElem?_cons_zero] at h
    cases h
    rw [List.eraseIdx_cons_zero]
  | x :: l, j + 1, y, h => by
    rw [List.getElem?_cons_succ] at h
    rw [List.eraseIdx_cons_succ]
    exact (List.Perm.swap x y _).trans ((erase_perm h).cons x)

theorem keys_run : ∀ {n : Nat} {s : List Int × List (Int × Bool)} {r : List Int}, AllRun (fun s : List Int × List (Int × Bool) => s.2) g_side_Reach_l3z g_side_Reach_l3 n s r → s.1.length ≤ 4294967296 → s.1.length + s.2.length ≤ 4294967296
  | 0, _, _, h, _ => h.elim
  | n + 1, (a, m), r, h, h0 => by
    cases m with
    | nil => exact h0
    | cons y m =>
      have hy := h.2 0 y rfl
      simp only [g_side_Reach_l3, appI, List.length_cons, List.length_nil, List.eraseIdx_cons_zero] at hy
      split at hy
      · rename_i hle
        rcases hy with e | ⟨s', e, hr⟩
        · cases e
        · cases e
          have := keys_run hr (by simp; omega)
          simp at this ⊢
          omega
      · rcases hy with e | ⟨s', e, hr⟩ <;> cases e

theorem keysA (m : List (Int × Bool)) : loopA (fun s : List Int × List (Int × Bool) => s.2) g_side_Reach_l3z g_side_Reach_l3 ([], m) = keysF m := by
  unfold keysF
  split
  · rename_i hm
    refine loopA_inv (fun s => (s.1 ++ s.2.map (·.1)).Perm (m.map (·.1))) ?_ ?_ (by simp)
    · rintro ⟨a, b⟩ hp h0
      simp only at h0
      subst h0
      simp only [List.map_nil, List.append_nil] at hp
      have hl := hp.length_eq
      rw [List.length_map] at hl
      have e1 : sortI a = some (isort a) := by unfold sortI; rw [if_pos (by omega)]
      simp only [g_side_Reach_l3z, e1, Option.bind_some, Option.map_some, isort_congr hp]
    · rintro ⟨a, b⟩ j y hp hy
      simp only at hy hp
      have he := (erase_perm hy).map (·.1)
      have hl := hp.length_eq
      have hl2 := (erase_perm hy).length_eq
      simp only [List.length_append, List.length_map, List.length_cons] at hl hl2
      refine .inr ⟨(a ++ [y.1], b.eraseIdx j), ?_, rfl, ?_⟩
      · simp only [g_side_Reach_l3, appI, List.length_cons, List.length_nil]
        rw [if_pos (by omega)]
        rfl
      · simp only [List.append_assoc, List.singleton_append]
        refine List.Perm.trans (List.Perm.append_left a ?_) hp
        exact he
  · rename_i hm
    cases h : loopA (fun s : List Int × List (Int × Bool) => s.2) g_side_Reach_l3z g_side_Reach_l3 ([], m) with
    | none => rfl
    | some r =>
      obtain ⟨n, hr⟩ := loopA_some h
      have := keys_run hr (by simp)
      simp at this
      omega

noncomputable def r_side_Reach_l2 (x0 : Net) (x1 : (List Int)) (x2 : (List Bool)) (x3 : Road) (s555 : (List Port) × (List (Port × Bool)) × (List (Int × Bool))) : Option (((List Port) × (List (Port × Bool)) × (List (Int × Bool))) ⊕ (List Int)) :=
  bif decide (0 < (s555.1.length : Int)) then (idx s555.1 0).bind fun y789 => (slO s555.1 1 (s555.1.length : Int)).bind fun y793 => (g_net_Net_Reads x0 y789).bind fun y797 => ((bif ((assoc s555.2.1 y789).getD false) then some true else (g_side_Own x3 y789.elem).bind fun y850 => bif y850 then some true else bif decide (0 ≤ y797) then bif decide (y797 < (x2.length : Int)) then (idx x2 y797).bind fun y856 => some y856 else some false else some false : Option (Bool))).bind fun (t846 : Bool) => bif t846 then some (.inl (y793, aput y789 true s555.2.1, s555.2.2)) else (g_net_Net_Kind x0 y789.elem).bind fun y865 => bif (y865 == 4) then some (.inl (y793, s555.2.1, aput y789.elem true s555.2.2)) else ((bif decide (y789.elem < (x1.length : Int)) then (idx x1 y789.elem).bind fun y876 => some y876 else some 0 : Option (Int))).bind fun (t873 : Int) => (g_net_Net_From x0 y789.elem y789.fin t873).bind fun y882 => bif (!y882.2) then some (.inl (y793, aput y789 true s555.2.1, s555.2.2)) else (g_net_Net_Next x0 (⟨y789.elem, y882.1⟩ : Port)).bind fun y890 => bif y890.2 then (appI y793 [y890.1]).bind fun y893 => some (.inl (y893, aput y789 true s555.2.1, aput y789.elem true s555.2.2)) else some (.inl (y793, aput y789 true s555.2.1, aput y789.elem true s555.2.2)) else (keysF s555.2.2).map .inr

noncomputable def r_side_Reach_l1 (x0 : Net) (x1 : (List Int)) (x2 : (List Bool)) (x3 : Road) (y108 : (List Port)) (s110 : Int × (List Port)) : Option ((Int × (List Port)) ⊕ (List Int)) :=
  bif decide (s110.1 < (y108.length : Int)) then (idx y108 s110.1).bind fun y200 => (g_net_Net_Next x0 y200).bind fun y204 => (appI s110.2 [y204.1]).bind fun y206 => some (.inl (wi64 (s110.1 + 1), y206)) else (loopR (r_side_Reach_l2 x0 x1 x2 x3) (s110.2, [], [])).map .inr

noncomputable def r_side_Reach (x0 : Net) (x1 : (List Int)) (x2 : (List Bool)) (x3 : Road) : Option (List Int) :=
  (g_side_Ports x0 x3).bind fun y108 => loopR (r_side_Reach_l1 x0 x1 x2 x3 y108) (0, ([] : List Port))

theorem reach_l2_eq : g_side_Reach_l2 = r_side_Reach_l2 := by
  funext x0 x1 x2 x3 s
  unfold g_side_Reach_l2 r_side_Reach_l2
  simp only [keysA]

theorem reach_l1_eq : g_side_Reach_l1 = r_side_Reach_l1 := by
  funext x0 x1 x2 x3 y s
  unfold g_side_Reach_l1 r_side_Reach_l1
  rw [reach_l2_eq]

theorem reach_eq : g_side_Reach = r_side_Reach := by
  funext x0 x1 x2 x3
  unfold g_side_Reach r_side_Reach
  rw [reach_l1_eq]

set_option maxRecDepth 100000
theorem known8 : g_L8_known = some true := by
  unfold g_L8_known
  rw [reach_eq]
  kernel_rfl

end Go.E
/- Plain Lean: the ports on the sides of a road, and what is its own: the program's answer and the document's are one (laws SidePorts, SideOwns). No condition. -/
namespace Go.E
open Go

theorem any_find {l : List Step} {e : Int} : decide (e ∈ l.map (·.elem)) = (l.find? fun s => s.elem == e).isSome := by
  induction l with
  | nil => simp
  | cons a l ih =>
    rw [List.find?_cons]
    by_cases c : a.elem = e
    · simp [c]
    · have : (a.elem == e) = false := beq_eq_false_iff_ne.2 c
      rw [this]
      simp only [List.map_cons, List.mem_cons, Ne.symm c, false_or]
      exact ih

theorem Own_eq (r : Road) (hl : r.steps.length < 1000000) (e : Int) : g_side_Own r e = some (decide (e ∈ r.steps.map (·.elem))) := by
  unfold g_side_Own
  obtain ⟨t, h1, h2⟩ := index_loop (l := r.steps) (f := fun s => s.elem == e) hl (step := g_side_Own_l1 r e) (by simp [g_side_Own_l1]) (fun i a ha => by
    have := ilt ha
    simp only [g_side_Own_l1, g_side_Own_1, dlt ha, cond_true, idx_nat, ha, Option.bind_some, wi64_succ (show i < 1000000000 by omega)]
    by_cases c : a.elem = e
    · simp [c]
    · have : (a.elem == e) = false := beq_eq_false_iff_ne.2 c
      simp [this])
  rw [h1, any_find]
  simp only [Option.bind_some, Option.some.injEq]
  rcases h2 with ⟨rfl, h2⟩ | ⟨a, h0, h2, _⟩
  · rw [h2]; rfl
  · rw [h2]; simp [h0]

/-! ### a loop that lays what each part gives behind what there is -/
/-! ### the side ports -/
section
variable {p : Plan} {n : Net}

/-! ### the document's -/
/-! ### the road that a number names -/
end

theorem SideOwns_true (r : Road) (e : Int) : g_L8_SideOwns r e = some true := by
  unfold g_L8_SideOwns
  simp only [known8, Option.bind_some, Bool.not_true, cond_false]
  obtain ⟨b, h1, h2⟩ := light_total r
  simp only [h1, Option.bind_some]
  cases b with
  | false => rfl
  | true =>
    obtain ⟨_, hl⟩ := h2 rfl
    simp only [Bool.not_true, cond_false, Elems_eq r (by omega), Option.bind_some]
    obtain ⟨b, h3, rfl⟩ := loop_up (step := g_L8_SideOwns_l1 r e (r.steps.map (·.elem))) (Post := fun b => b = true) (fun k s => s.2 = (k : Int) ∧ k ≤ (r.steps.map (·.elem)).length ∧ s.1 = decide (e ∈ (r.steps.map (·.elem)).take k)) (r.steps.map (·.elem)).length (s := (false, 0)) (by
      rintro k ⟨f, i⟩ ⟨rfl, h4, h5⟩
      simp only at h5
      subst h5
      by_cases c : k = (r.steps.map (·.elem)).length
      · left
        subst c
        refine ⟨true, ?_, rfl⟩
        simp only [g_L8_SideOwns_l1, dge, cond_false, List.length_map, beq_self_eq_true, cond_true, Own_eq r (show r.steps.length < 1000000 by omega), Option.bind_some, Option.map_some]
        rw [show r.steps.length = (r.steps.map (·.elem)).length by simp, List.take_length]
        simp
      · right
        refine ⟨by omega, ?_⟩
        obtain ⟨a, ha⟩ : ∃ a, (r.steps.map (·.elem))[k]? = some a := ⟨_, List.getElem?_eq_getElem (by omega)⟩
        have hk : k < 1000000000 := by simp at h4; omega
        refine ⟨(decide (e ∈ (r.steps.map (·.elem)).take (k + 1)), ((k + 1 : Nat) : Int)), ?_, rfl, by omega, rfl⟩
        simp only [g_L8_SideOwns_l1, dlt ha, cond_true, idx_nat, ha, Option.bind_some, wi64_succ hk]
        rw [List.take_add_one, ha]
        by_cases d : e ∈ (r.steps.map (·.elem)).take k
        · simp [d]
        · by_cases d2 : a = e
          · simp [d, d2]
          · have b2 : (a == e) = false := beq_eq_false_iff_ne.2 d2
            simp [d, b2, Ne.symm d2]) ⟨rfl, Nat.zero_le _, by simp⟩
    exact h3

end Go.E
