/- Scopes, slices set against nil, functions walked where they are called (o_in), slices handed back (FunN). No condition. -/
import Derived.Scope
import Derived.Test.YtoofmfiallkmbaaProg
import Derived.Test.YtoofmfiallkmbaaDel
import Derived.Shelf.Sort.Plain
import Derived.Shelf.Slices.In.SortNone
import Derived.Shelf.Slices.CompactI
import Derived.Lib.RowBridge
import Derived.ScopeJumps
import Derived.Test.YtoofmfiallkmbaaJ2
set_option linter.unusedVariables false
set_option linter.unusedSimpArgs false
namespace Go.E
open Go Go.RowKit

section
variable {α : Type} [DecidableEq α]
/-- Both, if they are one. -/
def agree (a b : Option α) : Option α := if a = b then a else none

theorem agree_some {a b : Option α} {x : α} (h : agree a b = some x) : a = some x ∧ b = some x := by
  unfold agree at h
  split at h
  · rename_i e; exact ⟨h, e ▸ h⟩
  · cases h

/-- A slice set against nil: what is empty may be nil, or not. -/
def nilS {β : Type} (l : List β) (a b : Option α) : Option α := match l with
  | [] => agree a b
  | _ :: _ => b

end

section
variable {P : Program} {A : Amb} {env : Env} {st : St}

/-! ### scopes -/
def scD (Q : Exit → St → Prop) : Exit → St → Prop
  | .goto _, _ => False
  | e, st => Q e st

theorem sc {c : Code} {Q : Exit → St → Prop} (h : dwp P A c (scD Q) st) : dwp P A (.scope c) Q st := fun a w hR =>
  wp_scope_straight (wp_mono (h a w hR) fun e a' w' ⟨st', hR', q⟩ => by
    cases e <;> first | exact q.elim | exact ⟨st', hR', q⟩)

theorem sc_r {Q : Exit → St → Prop} (h : Q .ret st) : scD Q .ret st := h

/-! ### nil -/
section
variable {f : St → Prop} {hf : Hid f} {nt : Nat} {sl : List (Nat × LV)} {h : Heap} {c : Nat} {α Ans : Type} [DecidableEq Ans] {enc : α → List DV} {l : List α} {d : Tmp} {t t' sz : Nat} {x y : Operand} {p q : Option Ans} {a : Ans}
theorem o_nilE (hh : nilS l p q = some a) (ht : isSlc env t = true) (hx : evC nt sl x = .p (.slice sz (l.map enc))) (hy : evC nt sl y = .p .nils)
    (k1 : p = some a → f ⟨nt, (d, .p (.bool true)) :: sl, h, c⟩) (k2 : q = some a → f ⟨nt, (d, .p (.bool false)) :: sl, h, c⟩) : opS P A env ⟨nt, sl, h, c⟩ (some d) (.binOp .eql t x y t') ⟨f, hf⟩ := by
  obtain ⟨ti, e, h1, h2⟩ := isSlc_eq ht
  rw [evC_eq (h := h) (c := c)] at hx hy
  show binS env .eql t _ _ _
  rw [hx, hy]
  refine tiW_iff.2 ⟨ti, h1, slcW_iff.2 ⟨e, h2, ?_⟩⟩
  intro r hr
  cases l with
  | nil =>
    obtain ⟨g1, g2⟩ := agree_some hh
    cases r with
    | true => exact k1 g1
    | false => exact k2 g2
  | cons z l => rw [hr (by simp)]; exact k2 hh

end

/-! ### functions walked where they are called -/

def resLV (tt : Nat → Option TI) (rs : List ResultVar) (st : St) : Option LV :=
  match ressE tt st rs with
  | some [l] => some l
  | some ls => some (.tup ls)
  | none => none

def initL : Nat → List LV → List (Nat × LV)
  | _, [] => []
  | n, d :: ds => (n, d) :: initL (n + 1) ds

theorem look_initL : ∀ (ds : List LV) (n t : Nat), look t (initL n ds) = if n ≤ t then ds[t - n]? else none
  | [], n, t => by simp [initL, look]
  | d :: ds, n, t => by
    simp only [initL, look]
    by_cases e : t = n
    · subst e; simp
    · rw [if_neg e, look_initL ds (n + 1) t]
      by_cases h : n + 1 ≤ t
      · rw [if_pos h, if_pos (by omega), show t - n = t - (n + 1) + 1 by omega, List.getElem?_cons_succ]
      · rw [if_neg h, if_neg (by omega)]

theorem resLV_sound (hE : EnvOK P env) {A : Amb} {μ : Nat → Option Loc} {F : Nat → Prop} {st : St} {a : Act} {w : World} (hs : ∀ x, LRel (Own A μ st.heap) μ w (a.eval x) (st.eval x)) (hh : HRel A μ st.heap F w) {fn : Func} {r : LV} (h : resLV env.tt fn.results.toList st = some r) :
    ∃ v, (results fn a.tmps).run P w = .ok v w ∧ LRel (Own A μ st.heap) μ w v r := by
  unfold resLV at h
  cases hr : ressE env.tt st fn.results.toList with
  | none => rw [hr] at h; cases h
  | some ls =>
    rw [hr] at h
    obtain ⟨vs, g1, g2, g3⟩ := ressE_sound (P := P) hE hs hh hr
    have hrun := results_run g1
    match ls, vs, g2 with
    | [], [], _ => cases h; exact ⟨_, hrun, .tup _ _ rfl (by simp)⟩
    | [l], [v], _ => simp only [Option.some.injEq] at h; subst h; exact ⟨_, hrun, g3 0 v l rfl rfl⟩
    | l :: m :: ls, u :: v :: vs, g2 => simp only [Option.some.injEq] at h; subst h; exact ⟨_, hrun, .tup _ _ (by simpa using g2) fun i x d hx hd => g3 i x d (by simpa using hx) hd⟩

/-- What holds at the end holds of a state that says no more. -/
theorem dwp_end {c : Code} {Q : Exit → St → Prop} (h : dwp P A c (fun e s => ∃ s', Weak A s s' ∧ Q e s') st) : dwp P A c Q st := fun a w hR =>
  wp_mono (h a w hR) fun _ a' w' ⟨_, hR', s', hw, q⟩ => ⟨s', hw a' w' hR', q⟩

theorem callC_in (hE : EnvOK P env) {k : Nat} {fn : Func} {cd : Code} (hf : P.funcs[k]? = some fn) (hb : fn.body = some cd) (hn : (fn.name == "runtime.NumGoroutine") = false) (nt : Nat) (hnt : fn.ntmps = nt) (rs : List ResultVar) (hrs : fn.results.toList = rs)
    {h : Heap} {ctr : Nat} {args : List LV} (hlen : args.length ≤ nt) {K : LV → Heap → Nat → Prop}
    (body : ∀ A' : Amb, (∀ id, A'.μ0 id ≠ none → id < ctr) → dwp P A' cd (endD fun st => ∃ l, resLV env.tt rs st = some l ∧ K l st.heap st.ctr) ⟨nt, initL 0 args, h, ctr⟩) : CallW P A h ctr k args K := by
  subst hnt hrs
  refine ⟨enters_of hf hb hn, fun μ w vs hh hsz hr => ?_⟩
  have hlt : ∀ id loc, μ id = some loc → id < ctr := by
    intro id loc hm
    by_cases hi : id < ctr
    · exact hi
    · rw [hh.fresh id (by simp only [Fr]; omega)] at hm; cases hm
  let A' : Amb := ⟨w, A.O, Mine μ h, fun id => if id < ctr then μ id else none, fun b hb' => ⟨Nat.lt_of_lt_of_le (A.hO b hb').1 hh.size, by
    rintro ⟨id, o, loc, h1, h2, h3, rfl⟩
    exact (hh.base id o loc h1 h2 h3).2.1 hb'⟩⟩
  have hA' : ∀ id, A'.μ0 id ≠ none → id < ctr := by
    intro id hid
    by_cases hi : id < ctr
    · exact hi
    · simp [A', hi] at hid
  have hown : ∀ b, Own A' μ h b ↔ Own A μ h b := fun b => Iff.rfl
  have hh' : HRel A' μ h (Fr ctr) w := ⟨hh.obj, hh.inj, hh.fresh, fun id o loc h1 h2 h3 => ⟨(hh.base id o loc h1 h2 h3).1, (hh.base id o loc h1 h2 h3).2.1, .inr ⟨id, o, loc, h1, h2, h3, rfl⟩⟩, Nat.le_refl _, fun _ _ _ => rfl, rfl, rfl, rfl, fun id loc hm => by
    simp only [A'] at hm
    split at hm
    · exact hm
    · cases hm⟩
  have hR : R A' ⟨fn.ntmps, initL 0 args, h, ctr⟩ { tmps := vs ++ Array.replicate (fn.ntmps - vs.size) undef, defers := [] } w := by
    refine ⟨⟨μ, hh', fun t ht => ?_⟩, by simp; omega, rfl⟩
    simp only [getS, look_initL, Nat.zero_le, if_true, Nat.sub_zero]
    by_cases hlt' : t < args.length
    · have hv : t < vs.size := by omega
      have e : args[t]? = some args[t] := by simp [hlt']
      rw [e]
      have e2 : (vs ++ Array.replicate (fn.ntmps - vs.size) undef).getD t undef = vs[t] := by
        rw [Array.getD_eq_getD_getElem?, Array.getElem?_append_left hv]; simp [hv]
      rw [e2]
      exact hr t _ _ (by simp [hv]) e
    · have e : args[t]? = none := by simp; omega
      rw [e]; exact .any _
  refine calls_of_wp hf hb (wp_mono (body A' hA' _ _ hR) ?_)
  rintro e a' w' ⟨st', ⟨⟨μ', hh2, hs⟩, hnt, hdef⟩, hq⟩
  have fin : (∃ l, resLV env.tt fn.results.toList st' = some l ∧ K l st'.heap st'.ctr) → a'.defers = [] ∧ ∃ v, (results fn a'.tmps).run P w' = .ok v w' ∧
      ∃ u l h' c' μ', Ending.returned v = .returned u ∧ K l h' c' ∧ HRel A μ' h' (Fr c') w' ∧ LRel (Own A μ' h') μ' w' u l ∧ ∀ v x, LRel (Own A μ h) μ w v x → LRel (Own A μ' h') μ' w' v x := by
    rintro ⟨l, h1, h2⟩
    obtain ⟨v, g1, g2⟩ := resLV_sound (P := P) hE (fun x => eval_rel hs x) hh2 h1
    have mineof : ∀ b, b < w.heap.size → Mine μ' st'.heap b → Mine μ h b := by
      rintro b hb' ⟨id, o, loc, k1, k2, k3, rfl⟩
      rcases (hh2.base id o loc k1 k2 k3).2.2 with hb2 | hb2
      · exact absurd hb2 (by show ¬ w.heap.size ≤ _; omega)
      · exact hb2
    have keepμ' : ∀ id loc, μ id = some loc → μ' id = some loc := fun id loc hm => hh2.ext id loc (by simp only [A']; rw [if_pos (hlt id loc hm)]; exact hm)
    refine ⟨hdef, v, g1, v, l, st'.heap, st'.ctr, μ', rfl, h2, ⟨hh2.obj, hh2.inj, hh2.fresh, fun id o loc k1 k2 k3 => ⟨(hh2.base id o loc k1 k2 k3).1, (hh2.base id o loc k1 k2 k3).2.1, ?_⟩, Nat.le_trans hh.size hh2.size, fun b hb' hnf => ?_, hh2.os.trans hh.os, hh2.tape.trans hh.tape, hh2.output.trans hh.output, fun id loc hm => keepμ' id loc (hh.ext id loc hm)⟩, g2, fun v x hv => hv.mono ⟨hh2.size, fun b hb' hno => hh2.block b hb' fun hm => hno (.inr hm)⟩ (fun b hb' ho => ?_) keepμ'⟩
    · rcases (hh2.base id o loc k1 k2 k3).2.2 with hb2 | ⟨id2, o2, loc2, m1, m2, m3, m4⟩
      · exact .inl (Nat.le_trans hh.size hb2)
      · rw [← m4]; exact (hh.base id2 o2 loc2 m1 m2 m3).2.2
    · have hnm : ¬ Mine μ h b := by
        rintro ⟨id2, o2, loc2, m1, m2, m3, rfl⟩
        rcases (hh.base id2 o2 loc2 m1 m2 m3).2.2 with hb2 | hb2
        · omega
        · exact hnf hb2
      rw [hh2.block b (Nat.lt_of_lt_of_le hb' hh.size) hnm]
      exact hh.block b hb' hnf
    · rcases ho with ho | ho
      · exact .inl ho
      · exact .inr (mineof b hb' ho)
  cases e with
  | normal => exact fin hq
  | ret => exact fin hq
  | _ => exact hq.elim

/-- What a function that is walked where it is called owes at its end: the result, and what it left. -/
def IP (tt : Nat → Option TI) (rs : List ResultVar) (A : Amb) (L : LV) (H : Heap) (C : Nat) (e : Exit) (st : St) : Prop :=
  ∃ s', Weak A st s' ∧ endD (fun s => resLV tt rs s = some L ∧ s.heap = H ∧ s.ctr = C) e s'

theorem ipr {rs : List ResultVar} {L : LV} {nt C : Nat} {sl : List (Nat × LV)} {H : Heap} (hw : Weak A st ⟨nt, sl, H, C⟩) (hr : resLV env.tt rs ⟨nt, sl, H, C⟩ = some L) : IP env.tt rs A L H C .ret st := ⟨_, hw, hr, rfl, rfl⟩

theorem ipn {rs : List ResultVar} {L : LV} {nt C : Nat} {sl : List (Nat × LV)} {H : Heap} (hw : Weak A st ⟨nt, sl, H, C⟩) (hr : resLV env.tt rs ⟨nt, sl, H, C⟩ = some L) : IP env.tt rs A L H C .normal st := ⟨_, hw, hr, rfl, rfl⟩

section
variable {f : St → Prop} {hf : Hid f} {nt : Nat} {sl : List (Nat × LV)} {h : Heap} {c : Nat} {σ Ans : Type}

/-- A function is walked where it is called; its ways meet at its end. -/
theorem o_in (hE : EnvOK P env) (L : σ → LV) (H : σ → Heap) (C : Nat) {sp : Option σ} {rest : σ → Option Ans} {a : Ans} {dst : Option Tmp} {fo : Operand} {args : Array Operand} {ts : Array TypeId} {k : Nat} {fn : Func} {cd : Code} {caps ls : List LV}
    (hh : sp.bind rest = some a) (hfun : P.funcs[k]? = some fn) (nt' : Nat) (rs : List ResultVar) (sl' : List (Nat × LV)) (hb : fn.body = some cd) (hn : (fn.name == "runtime.NumGoroutine") = false) (hnt : Nat.beq fn.ntmps nt' = true) (hrs : fn.results.toList = rs)
    (hfn : evC nt sl fo = .fn k caps) (hl : mapOpF nt sl args.toList some = some ls) (hlen : Nat.ble (ls ++ caps).length nt' = true) (hsl : initL 0 (ls ++ caps) = sl')
    (body : ∀ A : Amb, (∀ id, A.μ0 id ≠ none → id < c) → ∀ t, sp = some t → dwp P A cd (IP env.tt rs A (L t) (H t) C) ⟨nt', sl', h, c⟩)
    (kk : ∀ t, rest t = some a → f (match dst with | some d => ⟨nt, (d, L t) :: sl, H t, C⟩ | none => ⟨nt, sl, H t, C⟩)) : opS P A env ⟨nt, sl, h, c⟩ dst (.call ⟨.value fo, args, ts⟩) ⟨f, hf⟩ := by
  obtain ⟨t, h1, h2⟩ := bd hh
  rw [evC_eq (h := h) (c := c)] at hfn
  show fnW _ _
  rw [hfn]
  show CallC P A h c k (args.toList.map _ ++ caps) _
  rw [args_eq hl]
  subst hsl
  refine callC_in hE hfun hb hn nt' (Nat.eq_of_beq_eq_true hnt) rs hrs (Nat.le_of_ble_eq_true hlen) fun A' hA' => ?_
  have := dwp_end (body A' hA' t h1)
  refine dwp_mono this fun e s q => ?_
  have fin : (resLV env.tt rs s = some (L t) ∧ s.heap = H t ∧ s.ctr = C) → ∃ l, resLV env.tt rs s = some l ∧ f (St.go ⟨nt, sl, h, c⟩ dst l s.heap s.ctr) := by
    rintro ⟨q1, q2, q3⟩
    refine ⟨_, q1, ?_⟩
    rw [q2, q3, go_go]
    have := kk t h2
    cases dst <;> exact this
  cases e <;> first | exact fin q | exact q.elim

end

/-! ### the names of what came in stay -/
def keepB : Nat → List (Nat × Nat) → Bool
  | 0, _ => true
  | n + 1, gl => match lookB n gl with
    | some m => match Nat.beq n m with
      | true => keepB n gl
      | false => false
    | none => false

theorem keepB_eq : ∀ {n : Nat} {gl : List (Nat × Nat)}, keepB n gl = true → ∀ i, i < n → look i gl = some i
  | 0, _, _, i, h => by omega
  | n + 1, gl, hk, i, hi => by
    simp only [keepB] at hk
    split at hk
    · rename_i m hm
      split at hk
      · rename_i hb
        have := Nat.eq_of_beq_eq_true hb
        subst this
        by_cases e : i = n
        · subst e; rw [← lookB_eq]; exact hm
        · exact keepB_eq hk i (by omega)
      · cases hk
    · cases hk

theorem kept {n : Nat} (hA : ∀ id, A.μ0 id ≠ none → id < n) (gl : List (Nat × Nat)) (hk : keepB n gl = true) : ∀ id, A.μ0 id ≠ none → look id gl = some id := fun id h => keepB_eq hk id (hA id h)

/-! ### slices handed back -/
section
variable {f : St → Prop} {hf : Hid f} {nt : Nat} {sl : List (Nat × LV)} {h : Heap} {c : Nat} {d : Tmp} {α : Type} {enc : α → List DV}
theorem o_callN {fo : Operand} {args : Array Operand} {ts : Array TypeId} {k e sz : Nat} {caps ls : List LV} {ds : List DV} {r : List α} (hF : FunN P k ds e sz (r.map enc))
    (hs : (ls ++ caps).flatMap (ids h) = []) (hfn : evC nt sl fo = .fn k caps) (hl : mapOpF nt sl args.toList some = some ls) (hds : toDVall h (ls ++ caps) = some ds)
    (kk : f ⟨nt, (d, .lsl c sz 0 r.length) :: sl, (c, .row e sz (r.map enc)) :: h, c + 1⟩) : opS P A env ⟨nt, sl, h, c⟩ (some d) (.call ⟨.value fo, args, ts⟩) ⟨f, hf⟩ := by
  rw [evC_eq (h := h) (c := c)] at hfn
  show fnW _ _
  rw [hfn]
  show CallC P A h c k (args.toList.map _ ++ caps) _
  rw [args_eq hl]
  refine callN hds hF hs ?_
  rw [List.length_map]
  exact kk

theorem fnN {k : Nat} {fn : Func} {cd : Code} {ds : List DV} {e sz : Nat} {r : List α} (hen : EncOK enc sz) (hf : P.funcs[k]? = some fn) (hb : fn.body = some cd) (hn : (fn.name == "runtime.NumGoroutine") = false) (nt : Nat) (hnt : Nat.beq fn.ntmps nt = true)
    (t : Nat) (hrs : fn.results.toList = [.tmp t]) (sl : List (Nat × LV)) (hsl : initSlots 0 ds = sl) (hlen : Nat.ble ds.length nt = true)
    (h : ∀ A : Amb, (∀ id, A.μ0 id = none) → dwp P A cd (endN t e sz (r.map enc)) ⟨nt, sl, [], 0⟩) : FunN P k ds e sz (r.map enc) := by
  subst hsl
  refine funN_of hf hb hn nt (Nat.eq_of_beq_eq_true hnt) t hrs (Nat.le_of_ble_eq_true hlen) (fun x hx => ?_) h
  obtain ⟨a, _, rfl⟩ := List.mem_map.1 hx
  exact (hen a).1

theorem erN {t e sz id n : Nat} {r : List α} (hv : evC nt sl (.tmp t) = .lsl id sz 0 n) (hl : lookB id h = some (.row e sz (r.map enc))) (hn : n = r.length) : endN t e sz (r.map enc) .ret ⟨nt, sl, h, c⟩ := by
  rw [evC_eq (h := h) (c := c)] at hv
  rw [lookB_eq] at hl
  refine .inl ⟨id, ?_, hl⟩
  rw [hv, hn, List.length_map]

theorem erNn {t e sz : Nat} (hv : evC nt sl (.tmp t) = .p .nils) : endN t e sz (([] : List α).map enc) .ret ⟨nt, sl, h, c⟩ := by
  rw [evC_eq (h := h) (c := c)] at hv
  exact .inr ⟨hv, rfl⟩

end
end
end Go.E
/- Rules for single operations: arrays, division, a nil slice as an empty one. No condition. -/
namespace Go.E
open Go Go.RowKit

section
variable {P : Program} {A : Amb} {env : Env} {f : St → Prop} {hf : Hid f} {nt : Nat} {sl : List (Nat × LV)} {h : Heap} {c : Nat} {d : Tmp} {α : Type} {l : List α} {t : Nat} {x i : Operand}

theorem setI_len {α : Type} (l : List α) (n : Int) (z : α) : (setI l n z).length = l.length := by simp [setI]

def arrE (env : Env) (t m : Nat) : Bool := match env.tt t with
  | some ti => match ti.sh with
    | .arr n e => match env.tt e with
      | some te => match te.sh with
        | .struct _ | .arr _ _ => false
        | _ => Nat.beq n m && Nat.beq te.size 1
      | none => false
    | _ => false
  | none => false

theorem arrE_eq {t m : Nat} (h : arrE env t m = true) : ∃ ti e te, env.tt t = some ti ∧ ti.sh = .arr m e ∧ env.tt e = some te ∧ te.size = 1 ∧ te.sh.isAgg = false := by
  unfold arrE at h
  split at h
  · rename_i ti hti
    split at h
    · rename_i n e he
      split at h
      · rename_i te hte
        split at h
        · cases h
        · cases h
        · rename_i k1 k2
          simp only [Bool.and_eq_true] at h
          have h1 := Nat.eq_of_beq_eq_true h.1
          subst h1
          refine ⟨ti, e, te, hti, he, hte, Nat.eq_of_beq_eq_true h.2, ?_⟩
          cases hq : te.sh <;> first | rfl | exact absurd hq (k1 _) | exact absurd hq (k2 _ _)
      · cases h
    · cases h
  · cases h

/-- A cell of an array in a variable. -/
theorem o_ixP {n : Int} {kk : IntKind} {id : Nat} {y : α} (hy : idx l n = some y) (ht : arrE env t l.length = true) (hx : evC nt sl x = .lpb id 0) (hi : evC nt sl i = .p (.int kk n)) (_ : True = True)
    (k : f ⟨nt, (d, .lpb id n.toNat) :: sl, h, c⟩) : opS P A env ⟨nt, sl, h, c⟩ (some d) (.indexAddr t x i) ⟨f, hf⟩ := by
  obtain ⟨ti, e, te, h1, h2, h3, h4, _⟩ := arrE_eq ht
  obtain ⟨g1, g2, g3⟩ := idx_some hy
  rw [evC_eq (h := h) (c := c)] at hx hi
  refine intW_iff.2 ⟨kk, n, hi, tiW_iff.2 ⟨ti, h1, ?_⟩⟩
  dsimp only
  rw [h2, hx]
  refine tiW_iff.2 ⟨te, h3, ⟨g1, by omega⟩, ?_⟩
  simp only [Nat.zero_add, h4, Nat.mul_one]
  exact k

def cellT (env : Env) (t : Nat) : Bool := match env.tt t with
  | some ti => match ti.sh with
    | .struct _ | .arr _ _ => false
    | _ => true
  | none => false

theorem cellT_eq {t : Nat} (h : cellT env t = true) : ∃ ti, env.tt t = some ti ∧ ti.sh.isAgg = false := by
  unfold cellT at h
  split at h
  · rename_i ti hti
    refine ⟨ti, hti, ?_⟩
    split at h
    · cases h
    · cases h
    · rename_i k1 k2
      cases hq : ti.sh <;> first | rfl | exact absurd hq (k1 _) | exact absurd hq (k2 _ _)
  · cases h

theorem o_ldX {n : Int} {id : Nat} {y : α} {g : α → LV} (hy : idx l n = some y) (hx : evC nt sl x = .lpb id n.toNat) (hl : lookB id h = some (.box (l.map g))) (ht : cellT env t = true) (_ : True = True)
    (k : f ⟨nt, (d, g y) :: sl, h, c⟩) : opS P A env ⟨nt, sl, h, c⟩ (some d) (.load t x) ⟨f, hf⟩ := by
  obtain ⟨ti, h1, h2⟩ := cellT_eq ht
  obtain ⟨g1, g2, g3⟩ := idx_some hy
  rw [evC_eq (h := h) (c := c)] at hx
  rw [lookB_eq] at hl
  refine tiW_iff.2 ⟨ti, h1, ?_⟩
  rw [hx]
  refine optW_iff.2 ⟨_, hl, ?_⟩
  dsimp only
  refine boxW_iff.2 ⟨_, rfl, ?_⟩
  refine optW_iff.2 ⟨g y, ?_, k⟩
  simp only [partE, h2, Bool.false_eq_true, if_false, List.getElem?_map, g3, Option.map_some]

/-- A cell of an array. -/
theorem o_ixA {n : Int} {kk : IntKind} {y : α} {g : α → DV} (hy : idx l n = some y) (ht : arrE env t l.length = true) (hx : evC nt sl x = .p (.agg (l.map g))) (hi : evC nt sl i = .p (.int kk n)) (_ : True = True)
    (k : f ⟨nt, (d, .p (g y)) :: sl, h, c⟩) : opS P A env ⟨nt, sl, h, c⟩ (some d) (.index t x i) ⟨f, hf⟩ := by
  obtain ⟨ti, e, te, h1, h2, h3, h4, h5⟩ := arrE_eq ht
  obtain ⟨g1, g2, g3⟩ := idx_some hy
  rw [evC_eq (h := h) (c := c)] at hx hi
  refine intW_iff.2 ⟨kk, n, hi, tiW_iff.2 ⟨ti, h1, g1, ?_⟩⟩
  dsimp only
  rw [h2, hx]
  refine tiW_iff.2 ⟨te, h3, by show n < (l.length : Int); omega, optW_iff.2 ⟨.p (g y), ?_, k⟩⟩
  simp only [partE, h5, Bool.false_eq_true, if_false, h4, Nat.mul_one, List.map_map, List.getElem?_map, g3, Option.map_some, Function.comp]

theorem o_rem {kk : IntKind} {a b r : Int} {y : Operand} {t' : Nat} (hr : modI a b = some r) (hx : evC nt sl x = .p (.int kk a)) (hy : evC nt sl y = .p (.int kk b)) (k : f ⟨nt, (d, .p (.int kk r)) :: sl, h, c⟩) :
    opS P A env ⟨nt, sl, h, c⟩ (some d) (.binOp .rem t x y t') ⟨f, hf⟩ := by
  rw [evC_eq (h := h) (c := c)] at hx hy
  simp only [modI] at hr
  split at hr
  · cases hr
  · rename_i hb
    simp only [Option.some.injEq] at hr
    subst hr
    show binS env .rem t _ _ _
    rw [hx, hy]
    exact ⟨rfl, hb, by rw [intBin, if_neg hb]; exact k⟩

/-! ### entries of maps -/
section
variable {κ υ : Type} [BEq κ] {ke : κ → DV} {ve : υ → DV} {mp : List (κ × υ)} {kt et : Nat}

/-- Where a key stands; where it would stand. -/
def aidx (m : List (κ × υ)) (x : κ) : Nat := match m with
  | [] => 0
  | p :: m => if x == p.1 then 0 else aidx m x + 1

/-- A map in which the key stands. -/
def ament (m : List (κ × υ)) (x : κ) (z : υ) : List (κ × υ) := match m with
  | [] => [(x, z)]
  | p :: m => if x == p.1 then p :: m else p :: ament m x z

theorem mfind_mapD (hk : KeyE env kt ke) (x : κ) : ∀ m : List (κ × υ), (mfind (ke x) (mapD ke ve m)).map (·.1) = if (assoc m x).isSome then some (aidx m x) else none
  | [] => by simp [mapD, mfind, assoc]
  | p :: m => by
    have ih := mfind_mapD hk x m
    simp only [mapD] at ih
    simp only [mapD, List.map_cons, mfind, hk.eq, assoc, aidx]
    by_cases h : (x == p.1) = true
    · simp [h]
    · simp only [h, Bool.false_eq_true, if_false, Option.map_map]
      cases ha : (assoc m x).isSome with
      | true =>
        rw [ha, if_pos rfl] at ih
        obtain ⟨r, hr, h1⟩ := Option.map_eq_some_iff.1 ih
        rw [hr]; simp [h1]
      | false =>
        rw [ha] at ih
        simp only [Bool.false_eq_true, if_false, Option.map_eq_none_iff] at ih
        rw [ih]; simp

theorem ament_has {x : κ} {z : υ} : ∀ {m : List (κ × υ)}, (assoc m x).isSome = true → ament m x z = m
  | [], h => by simp [assoc] at h
  | p :: m, h => by
    simp only [assoc] at h
    simp only [ament]
    by_cases hx : (x == p.1) = true
    · rw [if_pos hx]
    · rw [if_neg hx] at h ⊢; rw [ament_has h]

theorem ament_not {x : κ} {z : υ} : ∀ {m : List (κ × υ)}, (assoc m x).isSome = false → ament m x z = m ++ [(x, z)] ∧ aidx m x = m.length
  | [], _ => ⟨rfl, rfl⟩
  | p :: m, h => by
    simp only [assoc] at h
    simp only [ament, aidx]
    by_cases hx : (x == p.1) = true
    · rw [if_pos hx] at h; cases h
    · rw [if_neg hx] at h ⊢
      obtain ⟨h1, h2⟩ := ament_not (z := z) h
      rw [h1, if_neg hx, h2]; simp

theorem ament_set {x : κ} {z w : υ} : ∀ (m : List (κ × υ)), ∃ p, (ament m x z)[aidx m x]? = some p ∧ (ament m x z).set (aidx m x) (p.1, w) = aput x w m
  | [] => ⟨(x, z), rfl, rfl⟩
  | p :: m => by
    simp only [ament, aidx, aput]
    by_cases hx : (x == p.1) = true
    · simp only [hx, if_true]; exact ⟨p, rfl, rfl⟩
    · simp only [hx, Bool.false_eq_true, if_false]
      obtain ⟨q, h1, h2⟩ := ament_set (x := x) (z := z) (w := w) m
      exact ⟨q, by simpa using h1, by simp [h2]⟩

theorem upd_same {id : Nat} {v : HObj} : ∀ {h : Heap}, look id h = some v → upd id v h = h
  | [], hl => by simp [look] at hl
  | (q, u) :: r, hl => by
    simp only [look] at hl
    simp only [upd]
    split
    · rw [if_pos ‹_›] at hl; cases hl; rfl
    · rw [if_neg ‹_›] at hl; rw [upd_same hl]

theorem o_ment {y : κ} {id : Nat} {h' : Heap} (z : υ) (hk : KeyE env kt ke) (hx : evC nt sl x = .lmap id) (hm : lookB id h = some (.map (mapD ke ve mp))) (hi : evC nt sl i = .p (ke y)) (ht : mpT env t kt et = true) (hz : (env.tt et).map TI.zeroDV = some (ve z))
    (hu : updF id (.map (mapD ke ve (ament mp y z))) h some = some h') (k : f ⟨nt, (d, .tup [.p (ve ((assoc mp y).getD z)), .p (.int .i64 (aidx mp y))]) :: sl, h', c⟩) : opS P A env ⟨nt, sl, h, c⟩ (some d) (.mapEntry t x i) ⟨f, hf⟩ := by
  obtain ⟨ti, h1, h2⟩ := mpT_eq ht
  rw [evC_eq (h := h) (c := c)] at hx hi
  rw [lookB_eq] at hm
  rw [updF_eq, Option.some.injEq] at hu
  subst hu
  obtain ⟨te, h3, h4⟩ := Option.map_eq_some_iff.1 hz
  refine tiW_iff.2 ⟨ti, h1, mpW_iff.2 ⟨kt, et, h2, tiW_iff.2 ⟨te, h3, lmapW_iff.2 ⟨id, hx, optW_iff.2 ⟨_, hm, ?_⟩⟩⟩⟩⟩
  dsimp only
  refine mapW_iff.2 ⟨mapD ke ve mp, rfl, ?_⟩
  refine pdW_iff.2 ⟨_, hi, ⟨hk.fits y, fits_mapD hk mp⟩, ?_⟩
  have hf1 := mfind_mapD (ve := ve) hk y mp
  rw [mget_mapD hk, h4, getD_map]
  cases ha : (assoc mp y).isSome with
  | true =>
    rw [ha, if_pos rfl] at hf1
    obtain ⟨r, hr, h5⟩ := Option.map_eq_some_iff.1 hf1
    rw [ament_has ha, upd_same hm] at k
    rw [hr]
    simp only [Option.map_some, Option.getD_some, h5]
    exact k
  | false =>
    rw [ha] at hf1
    simp only [Bool.false_eq_true, if_false, Option.map_eq_none_iff] at hf1
    obtain ⟨g1, g2⟩ := ament_not (z := z) ha
    rw [g1, g2] at k
    rw [hf1]
    have e1 : mapD ke ve (mp ++ [(y, z)]) = mapD ke ve mp ++ [(ke y, ve z)] := by simp [mapD]
    have e2 : (mapD ke ve mp).length = mp.length := by simp [mapD]
    rw [e1] at k
    simp only [Option.map_none, Option.getD_none, e2]
    exact k

theorem o_esto {y : κ} {z w : υ} {id : Nat} {h' : Heap} {s v : Operand} (hx : evC nt sl x = .lmap id) (hm : lookB id h = some (.map (mapD ke ve (ament mp y z)))) (hs : evC nt sl s = .p (.int .i64 (aidx mp y))) (hv : evC nt sl v = .p (ve w))
    (hu : updF id (.map (mapD ke ve (aput y w mp))) h some = some h') (k : f ⟨nt, sl, h', c⟩) : opS P A env ⟨nt, sl, h, c⟩ none (.entryStore t x s v) ⟨f, hf⟩ := by
  rw [evC_eq (h := h) (c := c)] at hx hs hv
  rw [lookB_eq] at hm
  rw [updF_eq, Option.some.injEq] at hu
  subst hu
  refine lmapW_iff.2 ⟨id, hx, optW_iff.2 ⟨_, hm, ?_⟩⟩
  dsimp only
  refine mapW_iff.2 ⟨_, rfl, ?_⟩
  refine intW_iff.2 ⟨.i64, _, hs, pdW_iff.2 ⟨_, hv, Int.natCast_nonneg _, ?_⟩⟩
  obtain ⟨p, h1, h2⟩ := ament_set (x := y) (z := z) (w := w) mp
  refine optW_iff.2 ⟨(ke p.1, ve p.2), by simp only [Int.toNat_natCast, mapD, List.getElem?_map, h1, Option.map_some], ?_⟩
  have e : (mapD ke ve (ament mp y z)).set (Int.toNat (aidx mp y : Int)) (ke p.1, ve w) = mapD ke ve (aput y w mp) := by
    rw [← h2]; simp [mapD, List.map_set]
  dsimp only
  rw [e]
  exact k

end
end

/-! ### literals that nobody will turn -/
end Go.E
/- The types that the functions of this seat use, as plain data. Written by a program (mkenv.py). No condition. -/
namespace Go.E
open Go Go.RowKit Go.Proofs

def ttL : List (Nat × TI) := [
  (3, ⟨.int .i64, 1, 8, [.int .i64 0]⟩),
  (4, ⟨.bool, 1, 1, [.bool false]⟩),
  (5, ⟨.int .u8, 1, 1, [.int .u8 0]⟩),
  (9, ⟨.str, 1, 16, [.str .empty]⟩),
  (22, ⟨.slc 73, 1, 24, [.nils]⟩),
  (23, ⟨.slc 122, 1, 24, [.nils]⟩),
  (24, ⟨.slc 125, 1, 24, [.nils]⟩),
  (25, ⟨.slc 129, 1, 24, [.nils]⟩),
  (27, ⟨.struct [(0, 22), (1, 23), (2, 24), (3, 25), (4, 3), (5, 3), (6, 3), (7, 3), (8, 4)], 9, 136, [.nils, .nils, .nils, .nils, .int .i64 0, .int .i64 0, .int .i64 0, .int .i64 0, .bool false]⟩),
  (30, ⟨.other, 1, 8, [.nilp]⟩),
  (32, ⟨.slc 63, 1, 24, [.nils]⟩),
  (33, ⟨.slc 46, 1, 24, [.nils]⟩),
  (34, ⟨.slc 3, 1, 24, [.nils]⟩),
  (36, ⟨.struct [(0, 3), (1, 3), (2, 3), (3, 32), (4, 33), (5, 33), (6, 34), (7, 34), (8, 4)], 9, 152, [.int .i64 0, .int .i64 0, .int .i64 0, .nils, .nils, .nils, .nils, .nils, .bool false]⟩),
  (43, ⟨.slc 4, 1, 24, [.nils]⟩),
  (46, ⟨.struct [(0, 3), (1, 3)], 2, 16, [.int .i64 0, .int .i64 0]⟩),
  (55, ⟨.slc 65, 1, 24, [.nils]⟩),
  (63, ⟨.struct [(0, 3), (1, 3), (2, 3)], 3, 24, [.int .i64 0, .int .i64 0, .int .i64 0]⟩),
  (65, ⟨.struct [(0, 3), (1, 3)], 2, 16, [.int .i64 0, .int .i64 0]⟩),
  (73, ⟨.struct [(0, 9), (1, 3), (2, 3)], 3, 32, [.str .empty, .int .i64 0, .int .i64 0]⟩),
  (80, ⟨.slc 36, 1, 24, [.nils]⟩),
  (82, ⟨.int .i64, 1, 8, [.int .i64 0]⟩),
  (91, ⟨.mp 65 4, 1, 8, [.nilm]⟩),
  (94, ⟨.other, 1, 8, [.nilp]⟩),
  (98, ⟨.other, 1, 8, [.nilp]⟩),
  (100, ⟨.struct [(0, 27), (9, 36), (18, 55)], 19, 312, [.nils, .nils, .nils, .nils, .int .i64 0, .int .i64 0, .int .i64 0, .int .i64 0, .bool false, .int .i64 0, .int .i64 0, .int .i64 0, .nils, .nils, .nils, .nils, .nils, .bool false, .nils]⟩),
  (101, ⟨.slc 33, 1, 24, [.nils]⟩),
  (111, ⟨.mp 65 65, 1, 8, [.nilm]⟩),
  (112, ⟨.mp 65 3, 1, 8, [.nilm]⟩),
  (113, ⟨.mp 3 135, 1, 8, [.nilm]⟩),
  (114, ⟨.mp 3 3, 1, 8, [.nilm]⟩),
  (116, ⟨.struct [(0, 27), (9, 111), (10, 112), (11, 113), (12, 114)], 13, 168, [.nils, .nils, .nils, .nils, .int .i64 0, .int .i64 0, .int .i64 0, .int .i64 0, .bool false, .nilm, .nilm, .nilm, .nilm]⟩),
  (117, ⟨.mp 3 4, 1, 8, [.nilm]⟩),
  (122, ⟨.struct [(0, 65), (2, 65)], 4, 32, [.int .i64 0, .int .i64 0, .int .i64 0, .int .i64 0]⟩),
  (125, ⟨.struct [(0, 9), (1, 65), (3, 4)], 4, 40, [.str .empty, .int .i64 0, .int .i64 0, .bool false]⟩),
  (129, ⟨.struct [(0, 9), (1, 34)], 2, 40, [.str .empty, .nils]⟩),
  (130, ⟨.slc 9, 1, 24, [.nils]⟩),
  (135, ⟨.arr 2 3, 2, 16, [.int .i64 0, .int .i64 0]⟩),
  (142, ⟨.int .u64, 1, 8, [.int .u64 0]⟩),
  (144, ⟨.slc 147, 1, 24, [.nils]⟩),
  (147, ⟨.struct [(0, 3), (1, 3)], 2, 16, [.int .i64 0, .int .i64 0]⟩),
  (168, ⟨.int .i64, 1, 8, [.int .i64 0]⟩),
  (176, ⟨.int .u32, 1, 4, [.int .u32 0]⟩),
  (178, ⟨.int .u64, 1, 8, [.int .u64 0]⟩),
  (179, ⟨.mp 9 4, 1, 8, [.nilm]⟩),
  (181, ⟨.arr 4 3, 4, 32, [.int .i64 0, .int .i64 0, .int .i64 0, .int .i64 0]⟩),
  (182, ⟨.arr 3 3, 3, 24, [.int .i64 0, .int .i64 0, .int .i64 0]⟩),
  (183, ⟨.int .u64, 1, 8, [.int .u64 0]⟩),
  (187, ⟨.other, 1, 8, [.nilp]⟩)]

def eqL : List (Nat × List Sh) := [(46, [.int .i64, .int .i64]), (63, [.int .i64, .int .i64, .int .i64]), (65, [.int .i64, .int .i64])]

def keyL : List (Nat × List Sh) := [(65, [.int .i64, .int .i64])]

def ptrL : List Nat := [30]

def env : Env := ⟨fun t => lookB t ttL, fun t => lookB t eqL, fun t => lookB t keyL, memB ptrL, none⟩

theorem ptr_30 : ∃ e, Try.prog.underlying 30 = some (.pointer e) := ⟨116, by kernel_rfl⟩

theorem tts_ok : TTOK Try.prog env.tt := ttok_ofB (by kernel_rfl)

theorem eq_46 : EqOK Try.prog 46 [.int .i64, .int .i64] := eqok_flat (by kernel_rfl) (by kernel_rfl) (by kernel_rfl) (by kernel_rfl)

theorem eq_63 : EqOK Try.prog 63 [.int .i64, .int .i64, .int .i64] := eqok_flat (by kernel_rfl) (by kernel_rfl) (by kernel_rfl) (by kernel_rfl)

theorem eq_65 : EqOK Try.prog 65 [.int .i64, .int .i64] := eqok_flat (by kernel_rfl) (by kernel_rfl) (by kernel_rfl) (by kernel_rfl)

theorem key_65 : KeyOK Try.prog 65 [.int .i64, .int .i64] := keyok_flat (by kernel_rfl) eq_65 (by kernel_rfl)

theorem env_ok : EnvOK Try.prog env := by
  refine ⟨tts_ok, fun t ks h => ?_, fun t ks h => ?_, fun t h => ?_⟩
  · simp only [env, lookB_eq, eqL, look] at h
    split at h
    · subst_vars; cases h; exact eq_46
    split at h
    · subst_vars; cases h; exact eq_63
    split at h
    · subst_vars; cases h; exact eq_65
    cases h
  · simp only [env, lookB_eq, keyL, look] at h
    split at h
    · subst_vars; cases h; exact key_65
    cases h
  · simp only [env, ptrL, memB_eq, List.mem_cons, List.not_mem_nil, or_false] at h
    rcases h with rfl
    · exact ptr_30

theorem mixed : Try.prog.follows .mixedOrders = true := by kernel_rfl

end Go.E
/- slices.Delete as a call out of a data state: the row goes on under a new name. For an own slice, i up to j up to its length. -/
namespace Go.E
open Go Go.RowKit Go.Shelf Go.Proofs

variable {P : Program} {ρ : Ren} {env : Env} {A : Amb}

section
variable {α : Type} {enc : α → List DV} {l r : List α} {i j : Int} {nt : Nat} {sl : List (Nat × LV)} {h h' : Heap} {c d : Nat} {f : St → Prop} {hf : Hid f}

end
end Go.E
/- slices.Sort and slices.Compact of an own row of whole numbers, as calls out of a data state. For rows of fewer than 2^62 numbers. -/
namespace Go.E
open Go Go.RowKit Go.Shelf Go.Proofs Go.Sort

section
variable {P : Program} {ρ : Ren} {env : Env} {A : Amb}

end

section
variable {P : Program} {ρ : Ren} {env : Env} {A : Amb} {l r : List Int} {nt : Nat} {sl : List (Nat × LV)} {h h' : Heap} {c d : Nat} {f : St → Prop} {hf : Hid f}

end
end Go.E
/- A scope in which the run jumps back to one label, and on to another. No condition. -/
namespace Go.E
open Go Go.RowKit

section
variable {P : Program} {A : Amb} {st : St} {σ Ans : Type}

end

/-- A part of a list that has something. -/
def slO {α : Type} (l : List α) (lo hi : Int) : Option (List α) := match l with
  | [] => none
  | x :: r => slI (x :: r) lo hi

theorem slO_eq {α : Type} {l r : List α} {lo hi : Int} (h : slO l lo hi = some r) : l ≠ [] ∧ slI l lo hi = some r := by
  cases l with
  | nil => cases h
  | cons x l => exact ⟨by simp, h⟩

theorem slO_sp {α : Type} {l r : List α} {lo hi : Int} (h : slO l lo hi = some r) : lo.toNat + (hi - lo).toNat ≤ l.length ∧ (l.drop lo.toNat).take (hi - lo).toNat = r := by
  obtain ⟨-, h⟩ := slO_eq h
  unfold slI at h
  split at h
  · rename_i hb
    cases h
    refine ⟨by omega, ?_⟩
    rw [List.drop_take]
    congr 1
    omega
  · cases h

section
variable {P : Program} {A : Amb} {env : Env} {α : Type} {enc : α → List DV} {l r : List α} {nt : Nat} {sl : List (Nat × LV)} {h : Heap} {c d : Nat} {f : St → Prop} {hf : Hid f} {x : Operand} {t sz : Nat}

/-- A part of an own slice. -/
theorem o_slO {lo hi : Option Operand} {n m : Int} {id k : Nat} (hr : slO l n m = some r) (ht : slcSz env t sz = true) (hk : k = l.length) (hx : evC nt sl x = .lsl id sz 0 k)
    (hlo : bndI nt sl 0 lo = some n) (hhi : bndI nt sl l.length hi = some m)
    (kk : f ⟨nt, (d, .lsl id sz n.toNat (m - n).toNat) :: sl, h, c⟩) : opS P A env ⟨nt, sl, h, c⟩ (some d) (.slice t x lo hi none) ⟨f, hf⟩ := by
  obtain ⟨ti, e, te, h1, h2, h3, h4⟩ := slcSz_eq ht
  obtain ⟨hne, hs⟩ := slO_eq hr
  have hpos := List.length_pos_iff.2 hne
  subst hk
  rw [evC_eq (h := h) (c := c)] at hx
  simp only [slI] at hs
  split at hs
  · rename_i hb
    show sliceS env t _ _ _ _
    rw [hx]
    refine tiW_iff.2 ⟨ti, h1, slcW_iff.2 ⟨e, h2, tiW_iff.2 ⟨te, h3, h4, by omega, ?_⟩⟩⟩
    refine bndI_eq hhi (bndI_eq hlo ⟨hb, ?_⟩)
    rw [Nat.zero_add]; exact kk
  · cases hs

end
end Go.E
/- Own rows cut short; nil cells of own boxes; functions that call themselves. No condition. -/
namespace Go.E
open Go Go.RowKit

section
variable {A : Amb} {μ : Nat → Option Loc} {h : List (Nat × HObj)} {F : Nat → Prop} {w : World}

/-- An own object is read otherwise. -/
theorem HRel.swap (hh : HRel A μ h F w) {id : Nat} {o o' : HObj} (hx : look id h = some o) (hor : ∀ loc, μ id = some loc → ORel (Own A μ h) μ w loc o → ORel (Own A μ h) μ w loc o') :
    HRel A μ (upd id o' h) F w ∧ ∀ b, Own A μ (upd id o' h) b → Own A μ h b := by
  have hlook : ∀ j y, look j (upd id o' h) = some y → (j = id ∧ y = o') ∨ (j ≠ id ∧ look j h = some y) := by
    intro j y hy
    by_cases e : j = id
    · subst e; rw [look_upd_same hx] at hy; cases hy; exact .inl ⟨rfl, rfl⟩
    · rw [look_upd_other e] at hy; exact .inr ⟨e, hy⟩
  have hmine : ∀ b, Mine μ (upd id o' h) b → Mine μ h b := by
    rintro b ⟨j, y, lc, h1, h2, h3, h4⟩
    rcases hlook j y h1 with ⟨rfl, rfl⟩ | ⟨_, h1⟩
    · exact ⟨j, o, lc, hx, h2, h3, h4⟩
    · exact ⟨j, y, lc, h1, h2, h3, h4⟩
  have hown : ∀ b, Own A μ (upd id o' h) b → Own A μ h b := fun b hb => hb.imp (fun h => h) (hmine b)
  have f : ∀ j y, look j (upd id o' h) = some y → ∃ y, look j h = some y := by
    intro j y hy
    rcases hlook j y hy with ⟨rfl, rfl⟩ | ⟨_, hy⟩
    · exact ⟨_, hx⟩
    · exact ⟨_, hy⟩
  refine ⟨⟨?_, ?_, hh.fresh, ?_, hh.size, hh.block, hh.os, hh.tape, hh.output, hh.ext⟩, hown⟩
  · intro j y hy
    rcases hlook j y hy with ⟨rfl, rfl⟩ | ⟨e, hy⟩
    · obtain ⟨lc, h1, h2⟩ := hh.obj j o hx
      exact ⟨lc, h1, (hor lc h1 h2).mono (Kept.refl _ _) (fun b _ hb => hown b hb) (fun _ _ h => h) fun _ => rfl⟩
    · obtain ⟨lc, h1, h2⟩ := hh.obj j y hy
      exact ⟨lc, h1, h2.mono (Kept.refl _ _) (fun b _ hb => hown b hb) (fun _ _ h => h) fun _ => rfl⟩
  · intro j j' y y' lc lc' h1 h2 m1 m2 n1 n2 he
    obtain ⟨z, hz⟩ := f j y h1
    obtain ⟨z', hz'⟩ := f j' y' h2
    exact hh.inj _ _ _ _ _ _ hz hz' m1 m2 n1 n2 he
  · intro j y lc h1 m1 n1
    obtain ⟨z, hz⟩ := f j y h1
    exact hh.base _ _ _ hz m1 n1

end

section
variable {A : Amb} {nt : Nat} {sl : List (Nat × LV)} {h h' : Heap} {c : Nat}

theorem weak_swap {id : Nat} {o o' : HObj} (hx : look id h = some o) (hor : ∀ O μ w loc, ORel O μ w loc o → ORel O μ w loc o') : Weak A ⟨nt, sl, h, c⟩ ⟨nt, sl, upd id o' h, c⟩ := fun a w ⟨⟨μ, hh, hr⟩, hnt, hdef⟩ => by
  obtain ⟨g1, g2⟩ := hh.swap hx (o' := o') fun loc _ => hor _ _ _ loc
  exact ⟨⟨μ, g1, fun t ht => (hr t ht).mono (Kept.refl _ _) (fun b _ hb => g2 b hb) fun _ _ h => h⟩, hnt, hdef⟩

/-- An own row loses its end. -/
theorem weak_cut {α : Type} {enc : α → List DV} (id : Nat) {e sz : Nat} {l r : List α} {m : Int} (hr : slO l 0 m = some r) (hl : lookB id h = some (.row e sz (l.map enc)))
    (hu : updF id (.row e sz (r.map enc)) h some = some h') : Weak A ⟨nt, sl, h, c⟩ ⟨nt, sl, h', c⟩ := by
  rw [lookB_eq] at hl
  rw [updF_eq, Option.some.injEq] at hu
  subst hu
  refine weak_swap hl fun O μ w loc ⟨h1, h2, h3⟩ => ?_
  obtain ⟨-, hr⟩ := slO_sp hr
  have hk : r = l.take (m - 0).toNat := by rw [← hr]; rfl
  generalize (m - 0).toNat = k at hk
  subst hk
  refine ⟨h1, fun x hx => h2 x ?_, ?_⟩
  · obtain ⟨a, ha, rfl⟩ := List.mem_map.1 hx
    exact List.mem_map.2 ⟨a, List.mem_of_mem_take ha, rfl⟩
  · rcases h3 with ⟨h3, h4⟩ | ⟨h3, cs, h4, h5, h6, h7, h8⟩
    · refine .inl ⟨h3, ?_⟩
      rw [List.map_take, h4]; simp
    · refine .inr ⟨h3, cs, h4, h5, ?_, h7, fun i j x d v hx => h8 i j x d v ?_⟩
      · rw [List.length_map] at h6 ⊢
        rw [List.length_take]; omega
      · rw [List.map_take, List.getElem?_take] at hx
        split at hx
        · exact hx
        · cases hx

/-- A nil cell of an own box becomes an empty row of its own. -/
theorem weak_ghostB (id j e sz : Nat) {cells cells' : List LV} (hl : lookB id h = some (.box cells)) (hj : cells[j]? = some (.p .nils)) (hc : cells.set j (.lsl c sz 0 0) = cells')
    (hu : updF id (.box cells') h some = some h') : Weak A ⟨nt, sl, h, c⟩ ⟨nt, sl, (c, .row e sz []) :: h', c + 1⟩ := fun a w ⟨⟨μ, hh, hr⟩, hnt, hdef⟩ => by
  rw [lookB_eq] at hl
  rw [updF_eq, Option.some.injEq] at hu
  subst hu hc
  have hno := hh.fresh c (Nat.le_refl _)
  let loc : Loc := ⟨true, 0, 0, sz, 0⟩
  have hsub : ∀ id x, look id ((c, HObj.row e sz []) :: h) = some x → (id = c ∧ x = .row e sz []) ∨ look id h = some x := by
    intro id x hx
    simp only [look] at hx
    split at hx
    · cases hx; exact .inl ⟨‹_›, rfl⟩
    · exact .inr hx
  have hadd := hh.add hno loc (.row e sz []) ((c, .row e sz []) :: h) (fun hn => by cases hn) (fun hn => by cases hn) hsub (Kept.refl _ _) (fun _ _ _ _ _ _ _ => rfl) rfl rfl rfl ⟨rfl, by simp, .inl ⟨rfl, rfl⟩⟩
  have hown := hh.sub_add loc (.row e sz []) ((c, .row e sz []) :: h) (fun hn => by cases hn) hsub
  have hadd' := hadd.less (F' := Fr (c + 1)) fun id hid => by simp only [Fr] at hid ⊢; omega
  have hne : id ≠ c := hh.live_ne hno hl
  have hl' : look id ((c, HObj.row e sz []) :: h) = some (.box cells) := by simp only [look, if_neg hne]; exact hl
  obtain ⟨g1, g2⟩ := hadd'.swap hl' (o' := .box (cells.set j (.lsl c sz 0 0))) fun lc _ ⟨k1, cs, t, k2, k3, k4⟩ => by
    refine ⟨k1, cs, t, k2, by rw [List.length_set]; exact k3, fun i v l hv hl => ?_⟩
    rw [List.getElem?_set] at hl
    split at hl
    · split at hl
      · cases hl
        subst_vars
        have := k4 _ v _ hv hj
        rw [this.nils_inv]
        exact .lsln c loc (by simp [setμ]) rfl
      · cases hl
    · exact k4 i v l hv hl
  have hup : upd id (.box (cells.set j (.lsl c sz 0 0))) ((c, HObj.row e sz []) :: h) = (c, .row e sz []) :: upd id (.box (cells.set j (.lsl c sz 0 0))) h := by
    simp only [upd, if_neg hne]
  rw [hup] at g1 g2
  exact ⟨⟨_, g1, fun u hu => (hr u hu).mono (Kept.refl _ _) (fun b hb hb' => hown b hb (g2 b hb')) (keepμ hno loc)⟩, hnt, hdef⟩

end

section
variable {P : Program} {A : Amb} {env : Env} {α : Type} {enc : α → List DV} {l r : List α} {nt : Nat} {sl : List (Nat × LV)} {h : Heap} {c d : Nat} {f : St → Prop} {hf : Hid f} {x : Operand} {t sz : Nat}

/-- The beginning of an own slice. -/
theorem o_slB {hi : Option Operand} {m : Int} {id k : Nat} (hr : slO l 0 m = some r) (ht : slcSz env t sz = true) (hk : k = l.length) (hx : evC nt sl x = .lsl id sz 0 k)
    (hhi : bndI nt sl l.length hi = some m)
    (kk : f ⟨nt, (d, .lsl id sz 0 r.length) :: sl, h, c⟩) : opS P A env ⟨nt, sl, h, c⟩ (some d) (.slice t x none hi none) ⟨f, hf⟩ := by
  refine o_slO (lo := none) hr ht hk hx rfl hhi ?_
  have e : (m - 0).toNat = r.length := by
    obtain ⟨h1, h2⟩ := slO_sp hr
    rw [← h2]
    simp at h1 ⊢; omega
  rw [e]
  exact kk

end

/-! ### an own row that is data from now on -/
section
variable (id : Nat) (src d : LV)
mutual
inductive FrzV : LV → LV → Prop
  | same (v : LV) : FrzV v v
  | hit : FrzV src d
  | nil (z : Nat) : FrzV (.p .nils) (.p (.slice z []))
  | agg {a b : List LV} : FrzVs a b → FrzV (.agg a) (.agg b)
inductive FrzVs : List LV → List LV → Prop
  | nil : FrzVs [] []
  | cons {x y : LV} {a b : List LV} : FrzV x y → FrzVs a b → FrzVs (x :: a) (y :: b)
end

inductive FrzS (sl : List (Nat × LV)) : List (Nat × LV) → Prop
  | nil : FrzS sl []
  | cons (t : Nat) {v : LV} {r : List (Nat × LV)} : FrzV src d (getS sl t) v → FrzS sl r → FrzS sl ((t, v) :: r)

inductive FrzO : HObj → HObj → Prop
  | same (o : HObj) : FrzO o o
  | box {a b : List LV} : FrzVs src d a b → FrzO (.box a) (.box b)

inductive FrzH (h : Heap) : Heap → Prop
  | nil : FrzH h []
  | cons (i : Nat) {o o' : HObj} {r : Heap} (hne : Nat.beq i id = false) (hl : lookB i h = some o) : FrzO src d o o' → FrzH h r → FrzH h ((i, o') :: r)

end

section
variable {A : Amb} {nt : Nat} {sl sl' : List (Nat × LV)} {h h' : Heap} {c : Nat} {id : Nat} {src d : LV}

mutual
theorem frzV_rel {O O' : Nat → Prop} {μ μ' : Nat → Option Loc} {w : World} (hμ : ∀ id l, μ id = some l → μ' id = some l) (hO : ∀ b, b < w.heap.size → O' b → O b) (hd : ∀ v, LRel O μ w v src → LRel O' μ' w v d) : ∀ {x y : LV}, FrzV src d x y → ∀ v, LRel O μ w v x → LRel O' μ' w v y
  | _, _, .same _, v, h => h.mono (Kept.refl _ _) hO hμ
  | _, _, .hit, v, h => hd v h
  | _, _, .nil z, v, h => by
    rw [h.nils_inv]
    exact .p _ _ (.snil z)
  | _, _, .agg (a := ls) (b := b) q, v, h => by
    cases h with
    | agg vs _ hsz hr =>
      obtain ⟨g1, g2⟩ := frzVs_rel hμ hO hd q
      exact .agg vs _ (by omega) fun i v l hv hl => by
        have hi := (List.getElem?_eq_some_iff.1 hl).1
        obtain ⟨x, hx⟩ : ∃ x, ls[i]? = some x := ⟨ls[i]'(by omega), List.getElem?_eq_getElem _⟩
        exact g2 i x l hx hl v (hr i v x hv hx)
theorem frzVs_rel {O O' : Nat → Prop} {μ μ' : Nat → Option Loc} {w : World} (hμ : ∀ id l, μ id = some l → μ' id = some l) (hO : ∀ b, b < w.heap.size → O' b → O b) (hd : ∀ v, LRel O μ w v src → LRel O' μ' w v d) : ∀ {a b : List LV}, FrzVs src d a b → a.length = b.length ∧ ∀ (i : Nat) (x y : LV), a[i]? = some x → b[i]? = some y → ∀ v, LRel O μ w v x → LRel O' μ' w v y
  | _, _, .nil => ⟨rfl, fun i x y h => by simp at h⟩
  | _, _, .cons q r => by
    obtain ⟨g1, g2⟩ := frzVs_rel hμ hO hd r
    refine ⟨by simp [g1], fun i x y hx hy => ?_⟩
    cases i with
    | zero => simp at hx hy; subst hx hy; exact frzV_rel hμ hO hd q
    | succ i => exact g2 i x y (by simpa using hx) (by simpa using hy)
end

theorem frzS_look : ∀ {sl' : List (Nat × LV)}, FrzS src d sl sl' → ∀ t l, look t sl' = some l → FrzV src d (getS sl t) l
  | _, .nil, t, l, h => by simp [look] at h
  | _, .cons u q r, t, l, h => by
    simp only [look] at h
    split at h
    · cases h; subst_vars; exact q
    · exact frzS_look r t l h

theorem frzH_look : ∀ {h' : Heap}, FrzH id src d h h' → ∀ i o', look i h' = some o' → i ≠ id ∧ ∃ o, look i h = some o ∧ FrzO src d o o'
  | _, .nil, i, o, h => by simp [look] at h
  | _, .cons u hne hl q r, i, o, h => by
    simp only [look] at h
    split at h
    · cases h; subst_vars
      rw [lookB_eq] at hl
      exact ⟨fun e => by subst e; simp at hne, _, hl, q⟩
    · exact frzH_look r i o h

theorem weak_frzC (id : Nat) {d0 : DV} (hd : ∀ μ w (O' : Nat → Prop), HRel A μ h (Fr c) w → (∀ b, O' b → Own A μ (dels [id] h) b) → ∀ v, LRel (Own A μ h) μ w v src → PRel O' w v d0) (hs : FrzS src (.p d0) sl sl') (hh : FrzH id src (.p d0) h h') : Weak A ⟨nt, sl, h, c⟩ ⟨nt, sl', h', c⟩ := fun a w ⟨⟨μ, hR, hr⟩, hnt, hdef⟩ => by
  have hlk := fun i o' => frzH_look hh i o'
  have hmine : ∀ b, Mine μ h' b → Mine μ (dels [id] h) b := by
    rintro b ⟨j, y, lc, h1, h2, h3, h4⟩
    obtain ⟨g1, o, g2, -⟩ := hlk j y h1
    refine ⟨j, o, lc, ?_, h2, h3, h4⟩
    show look j (del id h) = some o
    rw [look_del_other g1]; exact g2
  have hown1 : ∀ b, Own A μ h' b → Own A μ (dels [id] h) b := fun b hb => hb.imp (fun h => h) (hmine b)
  have hown : ∀ b, Own A μ h' b → Own A μ h b := fun b hb => own_dels b (hown1 b hb)
  have hp : ∀ v, LRel (Own A μ h) μ w v src → LRel (Own A μ h') μ w v (.p d0) := fun v hv => .p _ _ (hd μ w _ hR hown1 v hv)
  refine ⟨⟨μ, ⟨?_, ?_, hR.fresh, ?_, hR.size, hR.block, hR.os, hR.tape, hR.output, hR.ext⟩, fun t ht => ?_⟩, hnt, hdef⟩
  · intro j o' hj
    obtain ⟨g1, o, g2, q⟩ := hlk j o' hj
    obtain ⟨lc, h1, h2⟩ := hR.obj j o g2
    refine ⟨lc, h1, ?_⟩
    cases q with
    | same _ => exact h2.mono (Kept.refl _ _) (fun b _ hb => hown b hb) (fun _ _ h => h) fun _ => rfl
    | box q =>
      obtain ⟨k1, cs, ty, k2, k3, k4⟩ := h2
      obtain ⟨q1, q2⟩ := frzVs_rel (O' := Own A μ h') (w := w) (fun _ _ h => h) (fun b _ hb => hown b hb) hp q
      refine ⟨k1, cs, ty, k2, by omega, fun i v l hv hl => ?_⟩
      have hi := (List.getElem?_eq_some_iff.1 hl).1
      rename_i a b
      have hx : a[i]? = some (a[i]'(by omega)) := List.getElem?_eq_getElem _
      exact q2 i _ l hx hl v (k4 i v _ hv hx)
  · intro j j' y y' lc lc' h1 h2 m1 m2 n1 n2 he
    obtain ⟨-, z, hz, -⟩ := hlk j y h1
    obtain ⟨-, z', hz', -⟩ := hlk j' y' h2
    exact hR.inj _ _ _ _ _ _ hz hz' m1 m2 n1 n2 he
  · intro j y lc h1 m1 n1
    obtain ⟨-, z, hz, -⟩ := hlk j y h1
    exact hR.base _ _ _ hz m1 n1
  · show LRel _ _ _ _ (match look t sl' with | some v => v | none => .any)
    cases hl : look t sl' with
    | none => exact .any _
    | some l => exact frzV_rel (fun _ _ h => h) (fun b _ hb => hown b hb) hp (frzS_look hs t l hl) _ (hr t ht)

theorem weak_frz (id : Nat) {d0 : DV} (hd : toDV1 h src = some d0 ∧ ids1 src = [id]) (hs : FrzS src (.p d0) sl sl') (hh : FrzH id src (.p d0) h h') : Weak A ⟨nt, sl, h, c⟩ ⟨nt, sl', h', c⟩ :=
  weak_frzC id (fun μ w O' hR hown v hv => (toDV1_rel hR (l := [id]) hv hd.1 (by rw [hd.2]; simp)).mono (Kept.refl _ _) fun b _ hb => hown b hb) hs hh

theorem own_dv {α : Type} {enc : α → List DV} {l : List α} {e : Nat} {sz : Nat} (hl : lookB id h = some (.row e sz (l.map enc))) : toDV1 h (.lsl id sz 0 l.length) = some (.slice sz (l.map enc)) ∧ ids1 (.lsl id sz 0 l.length) = [id] := by
  refine ⟨?_, rfl⟩
  rw [lookB_eq] at hl
  simp only [toDV1, hl, Nat.zero_add, List.length_map, Nat.le_refl, and_self, if_true, List.drop_zero]
  rw [List.take_of_length_le (by simp)]

end

/-! ### a function that hands back a slice of its own, of flat elements, reads own rows -/
section
variable {P : Program} {A : Amb} {env : Env}

end

section
variable {P : Program} {A : Amb} {env : Env} {α : Type} {enc : α → List DV} {nt : Nat} {sl : List (Nat × LV)} {h : Heap} {c d : Nat} {f : St → Prop} {hf : Hid f}
end

/-- A function that calls itself, at most n deep. -/
noncomputable def recF {α β : Type} (F : (α → Option β) → α → Option β) (n : Nat) : α → Option β := Nat.rec (fun _ => none) (fun _ ih => F ih) n

theorem recF_holds {α β : Type} {F : (α → Option β) → α → Option β} {C : α → β → Prop} (h : ∀ rec : α → Option β, (∀ a r, rec a = some r → C a r) → ∀ a r, F rec a = some r → C a r) : ∀ n a r, recF F n a = some r → C a r
  | 0, a, r, e => by cases e
  | n + 1, a, r, e => h (recF F n) (recF_holds h n) a r e

end Go.E
/- Drawn regions of which the orders do not all come to one by waiting: a tree of orders. No condition. -/
namespace Go.E
open Go Go.RowKit

inductive OTree where
  | done
  | nil
  | picks (l : List Nat) (t : OTree)
  | alt (i : Nat) (l : List Nat) (t r : OTree)

def setAll (listed : Array Bool) : List Nat → Array Bool
  | [] => listed
  | i :: l => setAll (listed.setIfInBounds i true) l

def picksOK (q : Bool) (md : Region.Mode) (ops : Array Oper) : List Nat → Array Bool → Bool
  | [], _ => true
  | i :: rest, listed => (match ops[i]? with
    | none => false
    | some oi => (Region.ready md ops listed == [i]) || ((Region.ready md ops listed).contains i && firstOK q md ops listed i oi (blockedB md ops listed i))) &&
    picksOK q md ops rest (listed.setIfInBounds i true)

def OTree.heads : OTree → List Nat
  | .alt i _ _ r => i :: r.heads
  | _ => []

/-- b: a further alternative. -/
def okT (q : Bool) (md : Region.Mode) (ops : Array Oper) : OTree → Bool → Array Bool → Nat → Bool
  | .done, b, listed, n => !b && (Region.ready md ops listed).isEmpty && n == 0
  | .nil, b, _, _ => b
  | .picks l t, b, listed, n => !b && picksOK q md ops l listed && decide (l.length ≤ n) && okT q md ops t false (setAll listed l) (n - l.length)
  | .alt i l t r, b, listed, n => (b || decide (0 < n) && !(Region.ready md ops listed).isEmpty && (Region.ready md ops listed).all fun j => (i :: r.heads).contains j) &&
      (decide (i < ops.size) && picksOK q md ops l (listed.setIfInBounds i true) && decide (l.length ≤ (bif b then n else n - 1)) &&
        okT q md ops t false (setAll (listed.setIfInBounds i true) l) ((bif b then n else n - 1) - l.length) && okT q md ops r true listed (bif b then n else n - 1))

section
variable (P : Program) (A : Amb) (env : Env) (base n : Nat) (K : St → Prop) (ops : List Oper)
def drT : OTree → St → Prop
  | .done, st => K st
  | .nil, _ => True
  | .picks l t, st => drM P A env base n ⟨drT t, ⟨⟩⟩ (pairM ops l) st
  | .alt i l t r, st => drM P A env base n ⟨drT t, ⟨⟩⟩ (pairM ops (i :: l)) st ∧ drT r st

end

section
variable {P : Program} {A : Amb} {env : Env} {md : Region.Mode} {base : Nat} {K : St → Prop}

theorem drT_p {ops : List Oper} {n : Nat} {l : List Nat} {t : OTree} {st : St} (k : drM P A env base n ⟨drT P A env base n K ops t, ⟨⟩⟩ (pairM ops l) st) : drT P A env base n K ops (.picks l t) st := k

theorem drT_a {ops : List Oper} {n : Nat} {i : Nat} {l : List Nat} {t r : OTree} {st : St} (k : drM P A env base n ⟨drT P A env base n K ops t, ⟨⟩⟩ (pairM ops (i :: l)) st) (k' : drT P A env base n K ops r st) : drT P A env base n K ops (.alt i l t r) st := ⟨k, k'⟩

theorem drT_d {ops : List Oper} {n c c' nt : Nat} {sl : List (Nat × LV)} {h : Heap} {S : St} (k : Weak A ⟨nt, sl, h, c + n⟩ S) : drT P A env c n (fun st => Weak A { st with ctr := c + n } S) ops .done ⟨nt, sl, h, c'⟩ := k

theorem drT_n {ops : List Oper} {n : Nat} {st : St} : drT P A env base n K ops .nil st := trivial

theorem picks_lt {q : Bool} {ops : Array Oper} : ∀ {l : List Nat} {listed : Array Bool}, picksOK q md ops l listed = true → ∀ i ∈ l, i < ops.size
  | [], _, _, i, hi => by simp at hi
  | j :: l, listed, h, i, hi => by
    simp only [picksOK, Bool.and_eq_true] at h
    rcases List.mem_cons.1 hi with rfl | hi
    · cases ho : ops[i]? with
      | none => rw [ho] at h; simp at h
      | some o => exact (Array.getElem?_eq_some_iff.1 ho).1
    · exact picks_lt h.2 i hi

/-- A beginning that may be picked; T: what holds behind it. -/
theorem DAny_picks (q : Bool) (hq : q = true → ∃ b, env.calm = some b) {ops : Array Oper} {T Q : St → Prop} (fuel : Nat) : ∀ (l : List Nat) (listed : Array Bool) (st : St), picksOK q md ops l listed = true → (∀ k, listed.getD k true = false → look (base + k) st.heap = none) →
    (∀ st', (∀ k, (setAll listed l).getD k true = false → look (base + k) st'.heap = none) → T st' → DAny P env md ops base Q fuel (setAll listed l) st') →
    dpops P env ops base T l st → DAny P env md ops base Q (l.length + fuel) listed st
  | [], listed, st, _, hfresh, hT, h => by
    rw [List.length_nil, Nat.zero_add]
    exact hT st hfresh h
  | i :: rest, listed, st, hok, hfresh, hT, h => by
    obtain ⟨o, l, e, ho, hd, hrest⟩ := dpops_step h
    simp only [picksOK, ho, Bool.and_eq_true, Bool.or_eq_true] at hok
    have hrec : DAny P env md ops base Q (rest.length + fuel) (listed.setIfInBounds i true) (apS st (base + i) o l e) := by
      refine DAny_picks q hq fuel rest _ _ hok.2 (fun k hk => ?_) hT hrest
      have hik : i ≠ k := by
        rintro rfl
        rcases Nat.lt_or_ge i listed.size with h' | h'
        · simp [h'] at hk
        · simp [Array.getElem?_eq_none h'] at hk
      rw [apS_heap]
      exact eff_fresh hd (by simp only [St.at]; omega) (hfresh k (by rw [getD_set_ne true hik] at hk; exact hk))
    rw [show (i :: rest).length + fuel = rest.length + fuel + 1 by simp; omega]
    rcases hok.1 with h1 | h1
    · have hr : Region.ready md ops listed = [i] := by simpa using h1
      refine ⟨fun h0 => (by rw [hr] at h0; cases h0), fun j hj => ?_⟩
      rw [hr] at hj
      simp at hj
      subst hj
      exact ⟨o, l, e, ho, hd, hrec⟩
    · obtain ⟨h1, h2⟩ := h1
      simp only [firstOK, Bool.and_eq_true, List.all_eq_true, List.mem_range] at h2
      obtain ⟨h2, h3⟩ := h2
      generalize hBe : blockedB md ops listed i = B at h2 h3
      refine DAny_first q hq ho (fun j => B.contains j) (fun j hj => ?_) (rest.length + fuel) listed st (fun j hj => ?_) (fun j oj hoj hji hun hBj => ?_) hfresh (by simpa using h1) hd hrec
      · have := h2 j (by simpa using hj)
        obtain ⟨⟨a1, a2⟩, a3⟩ := this
        refine ⟨by simpa using a1, fun oj hoj => ?_⟩
        rw [hoj] at a3
        obtain ⟨x, hx, hx2⟩ := Array.any_eq_true'.1 a3
        simp only [Bool.and_eq_true, Bool.or_eq_true, beq_iff_eq] at hx2
        exact ⟨x, hx, hx2.1, hx2.2⟩
      · have := (h2 j (by simpa using hj)).1.2
        simpa using this
      · have := h3 j (Array.getElem?_eq_some_iff.1 hoj).1
        simp only [Bool.or_eq_true, beq_iff_eq, hji, false_or, hun, Bool.false_eq_true] at this
        rw [hBj] at this
        simp only [Bool.false_eq_true, false_or, hoj, Bool.and_eq_true] at this
        exact this

theorem DAny_tree (q : Bool) (hq : q = true → ∃ b, env.calm = some b) {ops : List Oper} : ∀ (T : OTree) (listed : Array Bool) (st : St) (n : Nat), (∀ k, listed.getD k true = false → look (base + k) st.heap = none) → drT P A env base ops.length K ops T st →
    (okT q md ops.toArray T false listed n = true → DAny P env md ops.toArray base K n listed st) ∧
    (okT q md ops.toArray T true listed n = true → ∀ i ∈ T.heads, ∃ o l e, ops.toArray[i]? = some o ∧ dgW P env ops.toArray (st.at (base + i)) o l e ∧ DAny P env md ops.toArray base K n (listed.setIfInBounds i true) (apS st (base + i) o l e))
  | .done, listed, st, n, hfresh, h => by
    refine ⟨fun hok => ?_, fun hok => by simp [okT] at hok⟩
    simp only [okT, Bool.not_false, Bool.true_and, Bool.and_eq_true, beq_iff_eq, List.isEmpty_iff] at hok
    obtain ⟨h1, rfl⟩ := hok
    exact ⟨h1, st, Eqv.refl st, h⟩
  | .nil, listed, st, n, hfresh, h => ⟨fun hok => by simp [okT] at hok, fun _ i hi => by simp [OTree.heads] at hi⟩
  | .picks l t, listed, st, n, hfresh, h => by
    refine ⟨fun hok => ?_, fun hok => by simp [okT] at hok⟩
    simp only [okT, Bool.not_false, Bool.true_and, Bool.and_eq_true, decide_eq_true_eq] at hok
    obtain ⟨⟨h1, h2⟩, h3⟩ := hok
    have hb : (l.all fun i => decide (i < ops.length)) = true := List.all_eq_true.2 fun i hi => by simpa using picks_lt h1 i hi
    have := DAny_picks q hq (md := md) (Q := K) (n - l.length) l listed st h1 hfresh (fun st' hf' hT => ?_) (drM_sound l st hb h)
    · rwa [show l.length + (n - l.length) = n by omega] at this
    · refine DAny_eqv _ _ { st' with ctr := base + ops.length } _ ⟨rfl, fun _ => rfl, fun _ => rfl⟩ ?_
      exact (DAny_tree q hq t (setAll listed l) { st' with ctr := base + ops.length } (n - l.length) hf' hT).1 h3
  | .alt i l t r, listed, st, n, hfresh, ⟨h, h'⟩ => by
    have key : ∀ m, (decide (i < ops.toArray.size) && picksOK q md ops.toArray l (listed.setIfInBounds i true) && decide (l.length ≤ m) && okT q md ops.toArray t false (setAll (listed.setIfInBounds i true) l) (m - l.length) && okT q md ops.toArray r true listed m) = true →
        ∀ j ∈ i :: r.heads, ∃ o l e, ops.toArray[j]? = some o ∧ dgW P env ops.toArray (st.at (base + j)) o l e ∧ DAny P env md ops.toArray base K m (listed.setIfInBounds j true) (apS st (base + j) o l e) := by
      intro m hok j hj
      simp only [Bool.and_eq_true, decide_eq_true_eq] at hok
      obtain ⟨⟨⟨⟨h0, h1⟩, h2⟩, h3⟩, h4⟩ := hok
      rcases List.mem_cons.1 hj with rfl | hj
      · have hb : ((j :: l).all fun i => decide (i < ops.length)) = true := List.all_eq_true.2 fun i hi => by
          rcases List.mem_cons.1 hi with rfl | hi
          · simpa using h0
          · simpa using picks_lt h1 i hi
        obtain ⟨o, lv, e, ho, hd, hrest⟩ := dpops_step (drM_sound (j :: l) st hb h)
        refine ⟨o, lv, e, ho, hd, ?_⟩
        have := DAny_picks q hq (md := md) (Q := K) (m - l.length) l (listed.setIfInBounds j true) (apS st (base + j) o lv e) h1 (fun k hk => ?_) (fun st' hf' hT => ?_) hrest
        · rwa [show l.length + (m - l.length) = m by omega] at this
        · have hik : j ≠ k := by
            rintro rfl
            rcases Nat.lt_or_ge j listed.size with h' | h'
            · simp [h'] at hk
            · simp [Array.getElem?_eq_none h'] at hk
          rw [apS_heap]
          exact eff_fresh hd (by simp only [St.at]; omega) (hfresh k (by rw [getD_set_ne true hik] at hk; exact hk))
        · refine DAny_eqv _ _ { st' with ctr := base + ops.length } _ ⟨rfl, fun _ => rfl, fun _ => rfl⟩ ?_
          exact (DAny_tree q hq t _ { st' with ctr := base + ops.length } (m - l.length) hf' hT).1 h3
      · exact (DAny_tree q hq r listed st m hfresh h').2 h4 j hj
    refine ⟨fun hok => ?_, fun hok => ?_⟩
    · rw [okT, Bool.false_or] at hok
      obtain ⟨h1, h2⟩ := Bool.and_eq_true_iff.1 hok
      simp only [Bool.and_eq_true, decide_eq_true_eq, Bool.not_eq_true', List.all_eq_true] at h1
      obtain ⟨⟨h3, h4⟩, h5⟩ := h1
      obtain ⟨m, rfl⟩ : ∃ m, n = m + 1 := ⟨n - 1, by omega⟩
      refine ⟨fun h0 => by rw [h0] at h4; simp at h4, fun j hj => ?_⟩
      exact key m (by simpa using h2) j (by simpa using h5 j hj)
    · simp only [okT, Bool.true_or, Bool.true_and, cond_true] at hok
      exact key n hok

theorem rgdT (hE : EnvOK P env) (hm : P.follows .mixedOrders = true) {id : Nat} {ops : List Oper} {Q : Exit → St → Prop} {nt : Nat} {sl : List (Nat × LV)} {h : Heap} {c : Nat} (T : OTree) (n : Nat) (S : St)
    (hok : okT false .any ops.toArray T false (Array.replicate ops.length false) ops.length = true) (hn : Nat.beq ops.length n = true)
    (k : drT P A env c n (fun st => Weak A { st with ctr := c + n } S) ops T ⟨nt, sl, h, c⟩) (kk : Q .normal S) : dwp P A (.region id ops.toArray true) Q ⟨nt, sl, h, c⟩ := fun a w hR => by
  have hn' := Nat.eq_of_beq_eq_true hn
  subst hn'
  refine wp_region_any hm ?_
  have hR' := (hR.drawn (w.drawn + 1)).toRF
  have hfr : ∀ k, look (c + k) h = none := by
    intro k
    cases hx : look (c + k) h with
    | none => rfl
    | some o =>
      obtain ⟨⟨μ, hh, _⟩, _, _⟩ := hR
      obtain ⟨loc, h1, _⟩ := hh.obj _ _ hx
      rw [hh.fresh _ (by simp [Fr])] at h1; cases h1
  have hD := (DAny_tree false (fun h => by cases h) (md := .any) T (Array.replicate ops.length false) ⟨nt, sl, h, c⟩ ops.length (fun k _ => hfr k) k).1 hok
  rw [show ops.toArray.size = ops.length by simp]
  refine wpAny_of_DAny (A := A) (n := ops.length) hE (by simp) (fun st' a' w' listed hk hR'' => ?_) ops.length _ ⟨nt, sl, h, c⟩ a _ (by simp) hD ?_
  · refine ⟨S, ?_, kk⟩
    obtain ⟨⟨μ, x1, x2⟩, x3, x4⟩ := hR''
    exact hk a' w' ⟨⟨μ, x1.less fun id hid => .inl hid, x2⟩, x3, x4⟩
  · obtain ⟨⟨μ, x1, x2⟩, x3, x4⟩ := hR'
    refine ⟨⟨μ, x1.less fun id hid => ?_, x2⟩, x3, x4⟩
    rcases hid with hid | ⟨k, _, _, rfl⟩
    · simp only [Fr]; omega
    · simp [Fr]

end
end Go.E
/- Own objects handed to a function that turns them: its contract (CallW of the objects alone), and its use among other objects (callW_M, o_callM). No condition. -/
namespace Go.E
open Go Go.RowKit

section
variable {O : Nat → Prop} {μ μ' : Nat → Option Loc} {w : World} {ρ : Nat → Nat}
end

section
variable {P : Program}

end

section
variable {P : Program} {env : Env}
section
variable {A : Amb} {f : St → Prop} {hf : Hid f} {nt : Nat} {sl : List (Nat × LV)} {h : Heap} {c : Nat}
end
end
end Go.E
/- Loops over maps, in whatever order (loopA); iterators. No condition. -/
namespace Go.E
open Go Go.RowKit

/-! ### a loop that takes the entries of a row in any order -/
section
variable {σ α Ans : Type}

open Classical in
end

section
variable {P : Program} {A : Amb} {env : Env} {st : St} {σ α Ans : Type}

end

section
variable {P : Program} {A : Amb} {env : Env} {f : St → Prop} {hf : Hid f} {nt : Nat} {sl : List (Nat × LV)} {h : Heap} {c : Nat} {d : Tmp} {κ υ : Type} {ke : κ → DV} {ve : υ → DV}

end
end Go.E
/- The program's data in plain Lean, and how they stand in cells. Written by a program (gen.py). No condition. -/
namespace Go.E
open Go Go.RowKit Go.Proofs

instance : BEq ByteArray := ⟨fun a b => a.toList == b.toList⟩
def wi64 (n : Int) : Int := IntKind.wrap .i64 n

def xor64 (a b : Int) : Int := IntKind.wrap .i64 (BitVec.ofInt (IntKind.bits .i64) a ^^^ BitVec.ofInt (IntKind.bits .i64) b).toNat

def intC (n : Int) : List DV := [.int .i64 n]

def u8C (n : Int) : List DV := [.int .u8 n]

def boolC (b : Bool) : List DV := [.bool b]

def strC (s : ByteArray) : List DV := [.str s]

def rowC {α : Type} (sz : Nat) (enc : α → List DV) (l : List α) : List DV := [.slice sz (l.map enc)]

def ptrD {α : Type} (enc : α → List DV) (p : Option α) : DV := match p with
  | none => .nilp
  | some x => .place (enc x) 0

structure Port where
  elem : Int
  fin : Int
  deriving DecidableEq

def portC (x : Port) : List DV := [.int .i64 x.elem, .int .i64 x.fin]

theorem eqE_Port (x y : Port) : cellsEq (portC x) (portC y) = (x == y) := by
  rw [Bool.eq_iff_iff]
  rw [beq_iff_eq]
  simp only [portC, cellsEq, cellEq, Bool.and_eq_true, beq_iff_eq, Bool.and_true]
  constructor
  · intro h
    obtain ⟨a1, a2⟩ := x; obtain ⟨b1, b2⟩ := y; simp only at h; simp [h]
  · rintro rfl; simp

structure Join where
  a : Port
  b : Port
  deriving DecidableEq

def joinC (x : Join) : List DV := [.int .i64 x.a.elem, .int .i64 x.a.fin, .int .i64 x.b.elem, .int .i64 x.b.fin]

structure Elem where
  name : ByteArray
  kind : Int
  length : Int
  deriving DecidableEq

def elemC (x : Elem) : List DV := [.str x.name, .int .i64 x.kind, .int .i64 x.length]

structure Signal where
  name : ByteArray
  at_ : Port
  auto : Bool
  deriving DecidableEq

def signalC (x : Signal) : List DV := [.str x.name, .int .i64 x.at_.elem, .int .i64 x.at_.fin, .bool x.auto]

structure Line where
  name : ByteArray
  elems : (List Int)
  deriving DecidableEq

def lineC (x : Line) : List DV := [.str x.name, .slice 1 (x.elems.map intC)]

structure Plan where
  elems : (List Elem)
  joins : (List Join)
  signals : (List Signal)
  lines : (List Line)
  top : Int
  brake : Int
  margin : Int
  throw : Int
  hard : Bool
  deriving DecidableEq

def planC (x : Plan) : List DV := [.slice 3 (x.elems.map elemC), .slice 4 (x.joins.map joinC), .slice 4 (x.signals.map signalC), .slice 2 (x.lines.map lineC), .int .i64 x.top, .int .i64 x.brake, .int .i64 x.margin, .int .i64 x.throw, .bool x.hard]

structure Arr2Int where
  a0 : Int
  a1 : Int
  deriving DecidableEq

def arr2IntC (x : Arr2Int) : List DV := [.int .i64 x.a0, .int .i64 x.a1]

structure Net where
  p : Plan
  next : (List (Port × Port))
  reads : (List (Port × Int))
  line : (List (Int × Arr2Int))
  lead : (List (Int × Int))
  deriving DecidableEq

def netC (x : Net) : List DV := [.slice 3 (x.p.elems.map elemC), .slice 4 (x.p.joins.map joinC), .slice 4 (x.p.signals.map signalC), .slice 2 (x.p.lines.map lineC), .int .i64 x.p.top, .int .i64 x.p.brake, .int .i64 x.p.margin, .int .i64 x.p.throw, .bool x.p.hard, .map (mapD (fun x => .agg (portC x)) (fun x => .agg (portC x)) x.next), .map (mapD (fun x => .agg (portC x)) (.int .i64) x.reads), .map (mapD (.int .i64) (fun x => .agg (arr2IntC x)) x.line), .map (mapD (.int .i64) (.int .i64) x.lead)]

structure Step where
  elem : Int
  in_ : Int
  out : Int
  deriving DecidableEq

def stepC (x : Step) : List DV := [.int .i64 x.elem, .int .i64 x.in_, .int .i64 x.out]

structure Need where
  elem : Int
  pos : Int
  deriving DecidableEq

def needC (x : Need) : List DV := [.int .i64 x.elem, .int .i64 x.pos]

theorem eqE_Need (x y : Need) : cellsEq (needC x) (needC y) = (x == y) := by
  rw [Bool.eq_iff_iff]
  rw [beq_iff_eq]
  simp only [needC, cellsEq, cellEq, Bool.and_eq_true, beq_iff_eq, Bool.and_true]
  constructor
  · intro h
    obtain ⟨a1, a2⟩ := x; obtain ⟨b1, b2⟩ := y; simp only at h; simp [h]
  · rintro rfl; simp

structure Road where
  frm : Int
  to : Int
  fin : Int
  steps : (List Step)
  needs : (List Need)
  guards : (List Need)
  zone : (List Int)
  holds : (List Int)
  bare : Bool
  deriving DecidableEq

def roadC (x : Road) : List DV := [.int .i64 x.frm, .int .i64 x.to, .int .i64 x.fin, .slice 3 (x.steps.map stepC), .slice 2 (x.needs.map needC), .slice 2 (x.guards.map needC), .slice 1 (x.zone.map intC), .slice 1 (x.holds.map intC), .bool x.bare]

structure Way where
  out : Int
  pos : Int
  deriving DecidableEq

def wayC (x : Way) : List DV := [.int .i64 x.out, .int .i64 x.pos]

theorem keyE_65 : KeyE env 65 (fun x => .agg (portC x)) := ⟨fun a b => (eqE_Port a b), fun _ => rfl⟩

theorem keyE_3 : KeyE env 3 (.int .i64) := ⟨fun _ _ => rfl, fun _ => rfl⟩

theorem keyE_9 : KeyE env 9 .str := ⟨fun _ _ => rfl, fun _ => rfl⟩

end Go.E
/- Plain functions, and walks in step with them. Written by a program (gen.py). No condition. -/
set_option maxRecDepth 100000
namespace Go.E
open Go Go.RowKit Go.Proofs

noncomputable def g_R6_join (x0 : Int) (x1 : Int) (x2 : Int) (x3 : Int) : Option Join :=
  some (⟨(⟨x0, x1⟩ : Port), (⟨x2, x3⟩ : Port)⟩ : Join)

theorem f_R6_join (x0 : Int) (x1 : Int) (x2 : Int) (x3 : Int) (r : Join) (h : g_R6_join x0 x1 x2 x3 = some r) : Fun Try.prog 73 [.int .i64 x0, .int .i64 x1, .int .i64 x2, .int .i64 x3] (· = .agg (joinC r)) := by
  refine fn env_ok Try.func73 rfl rfl 16 rfl [.cell 8 122] rfl [(0, .p (.int .i64 x0)), (1, .p (.int .i64 x1)), (2, .p (.int .i64 x2)), (3, .p (.int .i64 x3))] rfl rfl fun A hA => ?_
  unfold g_R6_join at h
  refine rs env_ok ?_
  refine rl rfl ?_
  refine rs env_ok ?_
  refine rl rfl ?_
  refine dwp_ret ?_
  have hr := Option.some.inj h; subst hr
  exact er rfl Le.rfl

noncomputable def g_R6_Small : Option Plan :=
  (g_R6_join 0 0 1 0).bind fun y11 => (g_R6_join 1 1 2 0).bind fun y13 => (g_R6_join 2 1 3 0).bind fun y15 => (g_R6_join 3 1 5 0).bind fun y17 => (g_R6_join 2 2 4 0).bind fun y19 => some (⟨[(⟨(⟨#[87]⟩ : ByteArray), 4, 0⟩ : Elem), (⟨(⟨#[65]⟩ : ByteArray), 1, 20⟩ : Elem), (⟨(⟨#[80]⟩ : ByteArray), 2, 10⟩ : Elem), (⟨(⟨#[66]⟩ : ByteArray), 1, 20⟩ : Elem), (⟨(⟨#[67]⟩ : ByteArray), 1, 30⟩ : Elem), (⟨(⟨#[69]⟩ : ByteArray), 4, 0⟩ : Elem)], [y11, y13, y15, y17, y19], [(⟨(⟨#[119]⟩ : ByteArray), (⟨0, 0⟩ : Port), false⟩ : Signal), (⟨(⟨#[97]⟩ : ByteArray), (⟨1, 1⟩ : Port), false⟩ : Signal), (⟨(⟨#[101]⟩ : ByteArray), (⟨5, 0⟩ : Port), false⟩ : Signal), (⟨(⟨#[98]⟩ : ByteArray), (⟨3, 0⟩ : Port), false⟩ : Signal), (⟨(⟨#[99]⟩ : ByteArray), (⟨4, 0⟩ : Port), false⟩ : Signal)], [], 10, 5, 15, 2, false⟩ : Plan)

theorem f_R6_Small (r : Plan) (h : g_R6_Small = some r) : Fun Try.prog 45 [] (· = .agg (planC r)) := by
  refine fn env_ok Try.func45 rfl rfl 31 rfl [.cell 0 27] rfl [] rfl rfl fun A hA => ?_
  unfold g_R6_Small at h
  refine rs env_ok ?_
  refine rl rfl ?_
  refine rs env_ok ?_
  refine rl rfl ?_
  refine rs env_ok ?_
  refine rl rfl ?_
  refine rs env_ok ?_
  obtain ⟨y11, ey11, h12⟩ := bd h; clear h
  refine sx rfl (o_call (f_R6_join _ _ _ _ _ ey11) (.inl rfl) rfl rfl rfl ?_)
  obtain ⟨y13, ey13, h14⟩ := bd h12; clear h12
  refine sx rfl (o_call (f_R6_join _ _ _ _ _ ey13) (.inl rfl) rfl rfl rfl ?_)
  obtain ⟨y15, ey15, h16⟩ := bd h14; clear h14
  refine sx rfl (o_call (f_R6_join _ _ _ _ _ ey15) (.inl rfl) rfl rfl rfl ?_)
  obtain ⟨y17, ey17, h18⟩ := bd h16; clear h16
  refine sx rfl (o_call (f_R6_join _ _ _ _ _ ey17) (.inl rfl) rfl rfl rfl ?_)
  obtain ⟨y19, ey19, h20⟩ := bd h18; clear h18
  refine sx rfl (o_call (f_R6_join _ _ _ _ _ ey19) (.inl rfl) rfl rfl rfl ?_)
  refine rl rfl ?_
  refine rs env_ok ?_
  refine rl rfl ?_
  refine rs env_ok ?_
  refine rl rfl ?_
  refine dwp_ret ?_
  have hr := Option.some.inj h20; subst hr
  exact er (rd1 rfl (.agg (.cons (.own (enc := elemC) ([(⟨(⟨#[87]⟩ : ByteArray), 4, 0⟩ : Elem), (⟨(⟨#[65]⟩ : ByteArray), 1, 20⟩ : Elem), (⟨(⟨#[80]⟩ : ByteArray), 2, 10⟩ : Elem), (⟨(⟨#[66]⟩ : ByteArray), 1, 20⟩ : Elem), (⟨(⟨#[67]⟩ : ByteArray), 1, 30⟩ : Elem), (⟨(⟨#[69]⟩ : ByteArray), 4, 0⟩ : Elem)] : List Elem) rfl rfl) (.cons (.own (enc := joinC) ([y11, y13, y15, y17, y19] : List Join) rfl rfl) (.cons (.own (enc := signalC) ([(⟨(⟨#[119]⟩ : ByteArray), (⟨0, 0⟩ : Port), false⟩ : Signal), (⟨(⟨#[97]⟩ : ByteArray), (⟨1, 1⟩ : Port), false⟩ : Signal), (⟨(⟨#[101]⟩ : ByteArray), (⟨5, 0⟩ : Port), false⟩ : Signal), (⟨(⟨#[98]⟩ : ByteArray), (⟨3, 0⟩ : Port), false⟩ : Signal), (⟨(⟨#[99]⟩ : ByteArray), (⟨4, 0⟩ : Port), false⟩ : Signal)] : List Signal) rfl rfl) (.cons (.p _) (.cons (.p _) (.cons (.p _) (.cons (.p _) (.cons (.p _) (.cons (.p _) .nil))))))))))) (Le.agg' (.cons Le.rfl (.cons Le.rfl (.cons Le.rfl (.cons (Le.nil _) (.cons Le.rfl (.cons Le.rfl (.cons Le.rfl (.cons Le.rfl (.cons Le.rfl .nil))))))))))

noncomputable def g_R6_Few_l3 (x0 : Plan) (s442 : Int) : Option (Int ⊕ Bool) :=
  bif decide (s442 < (x0.signals.length : Int)) then (idx x0.signals s442).bind fun y488 => bif decide (100 < (y488.name.size : Int)) then some (.inr false) else some (.inl (wi64 (s442 + 1))) else some (.inr true)

noncomputable def g_R6_Few_l2 (x0 : Plan) (s332 : Int) : Option (Int ⊕ Bool) :=
  bif decide (s332 < (x0.elems.length : Int)) then (idx x0.elems s332).bind fun y378 => bif decide (100 < (y378.name.size : Int)) then some (.inr false) else some (.inl (wi64 (s332 + 1))) else (loopR (g_R6_Few_l3 x0) 0).map .inr

noncomputable def g_R6_Few_l1 (x0 : Plan) (s156 : Int) : Option (Int ⊕ Bool) :=
  bif decide (s156 < (x0.lines.length : Int)) then (((idx x0.lines s156).bind fun y263 => bif decide (60 < (y263.elems.length : Int)) then some true else (idx x0.lines s156).bind fun y267 => some (decide (100 < (y267.name.size : Int))) : Option (Bool))).bind fun (t261 : Bool) => bif t261 then some (.inr false) else some (.inl (wi64 (s156 + 1))) else (loopR (g_R6_Few_l2 x0) 0).map .inr

noncomputable def g_R6_Few (x0 : Plan) : Option Bool :=
  ((bif decide (60 < (x0.elems.length : Int)) then some true else bif decide (120 < (x0.joins.length : Int)) then some true else bif decide (60 < (x0.signals.length : Int)) then some true else some (decide (20 < (x0.lines.length : Int))) : Option (Bool))).bind fun (t24 : Bool) => bif t24 then some false else loopR (g_R6_Few_l1 x0) 0

theorem f_R6_Few (x0 : Plan) (r : Bool) (h : g_R6_Few x0 = some r) : Fun Try.prog 47 [.agg (planC x0)] (· = .bool r) := by
  refine fn env_ok Try.func47 rfl rfl 83 rfl [.tmp 2] rfl [(0, .p (.agg (planC x0)))] rfl rfl fun A hA => ?_
  unfold g_R6_Few at h
  refine rs env_ok ?_
  refine rl rfl ?_
  refine dwp_seq ?_
  refine jb (fun t24 : Bool => ⟨83, [(1, .lpb 0 0), (27, .p (.bool t24))], [(0, .box [.p (.slice 3 (x0.elems.map elemC)), .p (.slice 4 (x0.joins.map joinC)), .p (.slice 4 (x0.signals.map signalC)), .p (.slice 2 (x0.lines.map lineC)), .p (.int .i64 x0.top), .p (.int .i64 x0.brake), .p (.int .i64 x0.margin), .p (.int .i64 x0.throw), .p (.bool x0.hard)])], 1⟩) h (fun t24 h25 => ?_) (fun t24 h32 => ?_) <;> clear h
  · refine rg env_ok ?_
    refine rn 2 rfl ?_
    refine sx rfl (o_len rfl rfl ?_)
    refine rn 2 rfl ?_
    refine gs 10 h25 rfl rfl rfl (fun h26 => ?_) (fun h27 => ?_) <;> clear h25
    · refine rl rfl ?_
      have hr := Option.some.inj h26; subst hr
      exact npn (wk [(0, 0)] (free hA _) rfl rfl rfl (.cons rfl (.cons rfl .nil)) (.cons rfl rfl .nil))
    · refine rn 2 rfl ?_
      refine sx rfl (o_len rfl rfl ?_)
      refine rn 3 rfl ?_
      refine gs 16 h27 rfl rfl rfl (fun h28 => ?_) (fun h29 => ?_) <;> clear h27
      · refine rl rfl ?_
        have hr := Option.some.inj h28; subst hr
        exact npn (wk [(0, 0)] (free hA _) rfl rfl rfl (.cons rfl (.cons rfl .nil)) (.cons rfl rfl .nil))
      · refine rn 2 rfl ?_
        refine sx rfl (o_len rfl rfl ?_)
        refine rn 3 rfl ?_
        refine gs 22 h29 rfl rfl rfl (fun h30 => ?_) (fun h31 => ?_) <;> clear h29
        · refine rl rfl ?_
          have hr := Option.some.inj h30; subst hr
          exact npn (wk [(0, 0)] (free hA _) rfl rfl rfl (.cons rfl (.cons rfl .nil)) (.cons rfl rfl .nil))
        · refine rn 2 rfl ?_
          refine sx rfl (o_len rfl rfl ?_)
          refine rl rfl ?_
          have hr := Option.some.inj h31; subst hr
          exact npn (wk [(0, 0)] (free hA _) rfl rfl rfl (.cons rfl (.cons rfl .nil)) (.cons rfl rfl .nil))
  · refine cd rfl h32 (fun h33 => ?_) (fun h34 => ?_) <;> clear h32
    · refine rs env_ok ?_
      refine rl rfl ?_
      refine dwp_ret ?_
      refine thenD_r ?_
      have hr := Option.some.inj h33; subst hr
      exact er rfl Le.rfl
    · refine dwp_skip ?_
      refine thenD_n ?_
      refine dwp_seq ?_
      refine rs env_ok ?_
      refine rl rfl ?_
      refine dwp_block ?_
      apply lp (a := r) (fun s156 : Int => ⟨83, [(1, .lpb 0 0), (3, .p (.int .i64 s156))], [(0, .box [.p (.slice 3 (x0.elems.map elemC)), .p (.slice 4 (x0.joins.map joinC)), .p (.slice 4 (x0.signals.map signalC)), .p (.slice 2 (x0.lines.map lineC)), .p (.int .i64 x0.top), .p (.int .i64 x0.brake), .p (.int .i64 x0.margin), .p (.int .i64 x0.throw), .p (.bool x0.hard)])], 1⟩) h34 <;> clear h34
      · exact wk [(0, 0)] (free hA _) rfl rfl rfl (.cons rfl (.cons rfl .nil)) (.cons rfl rfl .nil)
      intro s156 b233 h234
      unfold g_R6_Few_l1 at h234
      refine dwp_seq ?_
      refine rs env_ok ?_
      refine rn 3 rfl ?_
      refine sx rfl (o_len rfl rfl ?_)
      refine rl rfl ?_
      refine cd rfl h234 (fun h237 => ?_) (fun h274 => ?_) <;> clear h234
      · refine dwp_skip ?_
        refine thenD_n ?_
        refine dwp_seq ?_
        refine dwp_block ?_
        refine jb (fun t261 : Bool => ⟨83, [(1, .lpb 0 0), (3, .p (.int .i64 s156)), (52, .p (.bool t261))], [(0, .box [.p (.slice 3 (x0.elems.map elemC)), .p (.slice 4 (x0.joins.map joinC)), .p (.slice 4 (x0.signals.map signalC)), .p (.slice 2 (x0.lines.map lineC)), .p (.int .i64 x0.top), .p (.int .i64 x0.brake), .p (.int .i64 x0.margin), .p (.int .i64 x0.throw), .p (.bool x0.hard)])], 1⟩) h237 (fun t261 h262 => ?_) (fun t261 h269 => ?_) <;> clear h237
        · refine rg env_ok ?_
          refine rn 3 rfl ?_
          obtain ⟨y263, ey263, h264⟩ := bd h262; clear h262
          refine sx rfl (o_idx ey263 rfl rfl rfl ?_)
          refine rn 2 rfl ?_
          refine sx rfl (o_len rfl rfl ?_)
          refine rn 2 rfl ?_
          refine gs 43 h264 rfl rfl rfl (fun h265 => ?_) (fun h266 => ?_) <;> clear h264
          · refine rl rfl ?_
            have hr := Option.some.inj h265; subst hr
            exact npn (wk [(0, 0)] (free hA _) rfl rfl rfl (.cons rfl (.cons rfl (.cons rfl .nil))) (.cons rfl rfl .nil))
          · refine rn 3 rfl ?_
            obtain ⟨y267, ey267, h268⟩ := bd h266; clear h266
            refine sx rfl (o_idx ey267 rfl rfl rfl ?_)
            refine rl rfl ?_
            have hr := Option.some.inj h268; subst hr
            exact npn (wk [(0, 0)] (free hA _) rfl rfl rfl (.cons rfl (.cons rfl (.cons rfl .nil))) (.cons rfl rfl .nil))
        · refine cd rfl h269 (fun h270 => ?_) (fun h273 => ?_) <;> clear h269
          · refine rs env_ok ?_
            refine rl rfl ?_
            refine dwp_ret ?_
            refine inB_r ?_
            refine thenD_r ?_
            obtain ⟨a271, h272, rfl⟩ := mps h270; clear h270
            refine lpt ?_
            refine inB_r ?_
            refine thenD_r ?_
            have hr := Option.some.inj h272; subst hr
            exact er rfl Le.rfl
          · refine dwp_skip ?_
            refine inB_n ?_
            refine thenD_n ?_
            refine rg env_ok ?_
            refine rl rfl ?_
            have hr := Option.some.inj h273; subst hr
            exact lpn (wk [(0, 0)] (free hA _) rfl rfl rfl (.cons rfl (.cons rfl .nil)) (.cons rfl rfl .nil))
      · refine dwp_exit ?_
        refine thenD_x ?_
        obtain ⟨a275, h276, rfl⟩ := mp h274; clear h274
        refine lpx ?_
        refine inB_x ?_
        refine thenD_n ?_
        refine dwp_seq ?_
        refine rs env_ok ?_
        refine rl rfl ?_
        refine dwp_block ?_
        apply lp (a := a275) (fun s332 : Int => ⟨83, [(1, .lpb 0 0), (4, .p (.int .i64 s332))], [(0, .box [.p (.slice 3 (x0.elems.map elemC)), .p (.slice 4 (x0.joins.map joinC)), .p (.slice 4 (x0.signals.map signalC)), .p (.slice 2 (x0.lines.map lineC)), .p (.int .i64 x0.top), .p (.int .i64 x0.brake), .p (.int .i64 x0.margin), .p (.int .i64 x0.throw), .p (.bool x0.hard)])], 1⟩) h276 <;> clear h276
        · exact wk [(0, 0)] (free hA _) rfl rfl rfl (.cons rfl (.cons rfl .nil)) (.cons rfl rfl .nil)
        intro s332 b365 h366
        unfold g_R6_Few_l2 at h366
        refine dwp_seq ?_
        refine rs env_ok ?_
        refine rn 3 rfl ?_
        refine sx rfl (o_len rfl rfl ?_)
        refine rl rfl ?_
        refine cd rfl h366 (fun h369 => ?_) (fun h384 => ?_) <;> clear h366
        · refine dwp_skip ?_
          refine thenD_n ?_
          refine dwp_seq ?_
          refine dwp_block ?_
          refine rs env_ok ?_
          refine rn 3 rfl ?_
          obtain ⟨y378, ey378, h379⟩ := bd h369; clear h369
          refine sx rfl (o_idx ey378 rfl rfl rfl ?_)
          refine rl rfl ?_
          refine cd rfl h379 (fun h380 => ?_) (fun h383 => ?_) <;> clear h379
          · refine rs env_ok ?_
            refine rl rfl ?_
            refine dwp_ret ?_
            refine inB_r ?_
            refine thenD_r ?_
            obtain ⟨a381, h382, rfl⟩ := mps h380; clear h380
            refine lpt ?_
            refine inB_r ?_
            refine thenD_r ?_
            have hr := Option.some.inj h382; subst hr
            exact er rfl Le.rfl
          · refine dwp_skip ?_
            refine inB_n ?_
            refine thenD_n ?_
            refine rg env_ok ?_
            refine rl rfl ?_
            have hr := Option.some.inj h383; subst hr
            exact lpn (wk [(0, 0)] (free hA _) rfl rfl rfl (.cons rfl (.cons rfl .nil)) (.cons rfl rfl .nil))
        · refine dwp_exit ?_
          refine thenD_x ?_
          obtain ⟨a385, h386, rfl⟩ := mp h384; clear h384
          refine lpx ?_
          refine inB_x ?_
          refine thenD_n ?_
          refine dwp_seq ?_
          refine rs env_ok ?_
          refine rl rfl ?_
          refine dwp_block ?_
          apply lp (a := a385) (fun s442 : Int => ⟨83, [(1, .lpb 0 0), (5, .p (.int .i64 s442))], [(0, .box [.p (.slice 3 (x0.elems.map elemC)), .p (.slice 4 (x0.joins.map joinC)), .p (.slice 4 (x0.signals.map signalC)), .p (.slice 2 (x0.lines.map lineC)), .p (.int .i64 x0.top), .p (.int .i64 x0.brake), .p (.int .i64 x0.margin), .p (.int .i64 x0.throw), .p (.bool x0.hard)])], 1⟩) h386 <;> clear h386
          · exact wk [(0, 0)] (free hA _) rfl rfl rfl (.cons rfl (.cons rfl .nil)) (.cons rfl rfl .nil)
          intro s442 b475 h476
          unfold g_R6_Few_l3 at h476
          refine dwp_seq ?_
          refine rs env_ok ?_
          refine rn 3 rfl ?_
          refine sx rfl (o_len rfl rfl ?_)
          refine rl rfl ?_
          refine cd rfl h476 (fun h479 => ?_) (fun h494 => ?_) <;> clear h476
          · refine dwp_skip ?_
            refine thenD_n ?_
            refine dwp_seq ?_
            refine dwp_block ?_
            refine rs env_ok ?_
            refine rn 3 rfl ?_
            obtain ⟨y488, ey488, h489⟩ := bd h479; clear h479
            refine sx rfl (o_idx ey488 rfl rfl rfl ?_)
            refine rl rfl ?_
            refine cd rfl h489 (fun h490 => ?_) (fun h493 => ?_) <;> clear h489
            · refine rs env_ok ?_
              refine rl rfl ?_
              refine dwp_ret ?_
              refine inB_r ?_
              refine thenD_r ?_
              obtain ⟨a491, h492, rfl⟩ := mps h490; clear h490
              refine lpt ?_
              refine inB_r ?_
              refine thenD_r ?_
              have hr := Option.some.inj h492; subst hr
              exact er rfl Le.rfl
            · refine dwp_skip ?_
              refine inB_n ?_
              refine thenD_n ?_
              refine rg env_ok ?_
              refine rl rfl ?_
              have hr := Option.some.inj h493; subst hr
              exact lpn (wk [(0, 0)] (free hA _) rfl rfl rfl (.cons rfl (.cons rfl .nil)) (.cons rfl rfl .nil))
          · refine dwp_exit ?_
            refine thenD_x ?_
            obtain ⟨a495, h496, rfl⟩ := mps h494; clear h494
            refine lpx ?_
            refine inB_x ?_
            refine thenD_n ?_
            refine rs env_ok ?_
            refine rl rfl ?_
            refine dwp_ret ?_
            have hr := Option.some.inj h496; subst hr
            exact er rfl Le.rfl

noncomputable def g_R6_names_l3 (x0 : Plan) (s54 : (Int × (List ByteArray))) (s160 : (Int × (List ByteArray))) (s266 : Int × (List ByteArray)) : Option ((Int × (List ByteArray)) ⊕ ((List ByteArray) × (List ByteArray) × (List ByteArray))) :=
  bif decide (s266.1 < (x0.lines.length : Int)) then (idx x0.lines s266.1).bind fun y312 => (appI s266.2 [y312.name]).bind fun y314 => some (.inl (wi64 (s266.1 + 1), y314)) else some (.inr (s54.2, s160.2, s266.2))

noncomputable def g_R6_names_l2 (x0 : Plan) (s54 : (Int × (List ByteArray))) (s160 : Int × (List ByteArray)) : Option ((Int × (List ByteArray)) ⊕ ((List ByteArray) × (List ByteArray) × (List ByteArray))) :=
  bif decide (s160.1 < (x0.signals.length : Int)) then (idx x0.signals s160.1).bind fun y206 => (appI s160.2 [y206.name]).bind fun y208 => some (.inl (wi64 (s160.1 + 1), y208)) else (loopR (g_R6_names_l3 x0 s54 s160) (0, ([] : List ByteArray))).map .inr

noncomputable def g_R6_names_l1 (x0 : Plan) (s54 : Int × (List ByteArray)) : Option ((Int × (List ByteArray)) ⊕ ((List ByteArray) × (List ByteArray) × (List ByteArray))) :=
  bif decide (s54.1 < (x0.elems.length : Int)) then (idx x0.elems s54.1).bind fun y100 => (appI s54.2 [y100.name]).bind fun y102 => some (.inl (wi64 (s54.1 + 1), y102)) else (loopR (g_R6_names_l2 x0 s54) (0, ([] : List ByteArray))).map .inr

noncomputable def g_R6_names (x0 : Plan) : Option ((List ByteArray) × (List ByteArray) × (List ByteArray)) :=
  loopR (g_R6_names_l1 x0) (0, ([] : List ByteArray))

theorem f_R6_names (x0 : Plan) (r : ((List ByteArray) × (List ByteArray) × (List ByteArray))) (h : g_R6_names x0 = some r) : Fun Try.prog 76 [.agg (planC x0)] (· = .tup [.slice 1 (r.1.map strC), .slice 1 (r.2.1.map strC), .slice 1 (r.2.2.map strC)]) := by
  refine fn env_ok Try.func76 rfl rfl 62 rfl [.tmp 2, .tmp 3, .tmp 4] rfl [(0, .p (.agg (planC x0)))] rfl rfl fun A hA => ?_
  unfold g_R6_names at h
  refine rs env_ok ?_
  refine rl rfl ?_
  refine rs env_ok ?_
  refine rl rfl ?_
  refine dwp_seq ?_
  refine rs env_ok ?_
  refine rl rfl ?_
  refine dwp_block ?_
  apply lp (a := r) (fun s54 : (Int × (List ByteArray)) => ⟨62, [(1, .lpb 0 0), (5, .lsl 1 1 0 s54.2.length), (6, .p (.nils)), (7, .p (.nils)), (8, .p (.int .i64 s54.1))], [(0, .box [.p (.slice 3 (x0.elems.map elemC)), .p (.slice 4 (x0.joins.map joinC)), .p (.slice 4 (x0.signals.map signalC)), .p (.slice 2 (x0.lines.map lineC)), .p (.int .i64 x0.top), .p (.int .i64 x0.brake), .p (.int .i64 x0.margin), .p (.int .i64 x0.throw), .p (.bool x0.hard)]), (1, .row 9 1 (s54.2.map strC))], 2⟩) h <;> clear h
  · exact Weak.trans (weak_ghost 5 9 1 rfl) (wk [(0, 0), (1, 1)] (free hA _) rfl rfl rfl (.cons rfl (.cons rfl (.cons rfl (.cons rfl (.cons rfl .nil))))) (.cons rfl rfl (.cons rfl rfl .nil)))
  intro s54 b91 h92
  unfold g_R6_names_l1 at h92
  refine dwp_seq ?_
  refine rs env_ok ?_
  refine rn 3 rfl ?_
  refine sx rfl (o_len rfl rfl ?_)
  refine rl rfl ?_
  refine cd rfl h92 (fun h95 => ?_) (fun h104 => ?_) <;> clear h92
  · refine dwp_skip ?_
    refine thenD_n ?_
    refine dwp_seq ?_
    refine dwp_block ?_
    refine rg env_ok ?_
    refine rn 4 rfl ?_
    obtain ⟨y100, ey100, h101⟩ := bd h95; clear h95
    refine sx rfl (o_idx ey100 rfl rfl rfl ?_)
    refine rn 3 rfl ?_
    obtain ⟨y102, ey102, h103⟩ := bd h101; clear h101
    refine sx rfl (o_app1 (enc := strC) (l := s54.2) (m := [y100.name]) ey102 (fun _ => ⟨rfl, rfl⟩) rfl rfl rfl rfl rfl rfl ?_)
    refine rl rfl ?_
    refine inB_n ?_
    refine thenD_n ?_
    refine rg env_ok ?_
    refine rl rfl ?_
    have hr := Option.some.inj h103; subst hr
    exact lpn (wk [(0, 0), (1, 3)] (free hA _) rfl rfl rfl (.cons rfl (.cons rfl (.cons rfl (.cons rfl (.cons rfl .nil))))) (.cons rfl rfl (.cons rfl rfl .nil)))
  · refine dwp_exit ?_
    refine thenD_x ?_
    obtain ⟨a105, h106, rfl⟩ := mp h104; clear h104
    refine lpx ?_
    refine inB_x ?_
    refine thenD_n ?_
    refine dwp_seq ?_
    refine rs env_ok ?_
    refine rl rfl ?_
    refine dwp_block ?_
    apply lp (a := a105) (fun s160 : (Int × (List ByteArray)) => ⟨62, [(1, .lpb 0 0), (5, .lsl 1 1 0 s54.2.length), (6, .lsl 2 1 0 s160.2.length), (7, .p (.nils)), (9, .p (.int .i64 s160.1))], [(0, .box [.p (.slice 3 (x0.elems.map elemC)), .p (.slice 4 (x0.joins.map joinC)), .p (.slice 4 (x0.signals.map signalC)), .p (.slice 2 (x0.lines.map lineC)), .p (.int .i64 x0.top), .p (.int .i64 x0.brake), .p (.int .i64 x0.margin), .p (.int .i64 x0.throw), .p (.bool x0.hard)]), (1, .row 9 1 (s54.2.map strC)), (2, .row 9 1 (s160.2.map strC))], 3⟩) h106 <;> clear h106
    · exact Weak.trans (weak_ghost 6 9 1 rfl) (wk [(0, 0), (1, 1), (2, 2)] (free hA _) rfl rfl rfl (.cons rfl (.cons rfl (.cons rfl (.cons rfl (.cons rfl .nil))))) (.cons rfl rfl (.cons rfl rfl (.cons rfl rfl .nil))))
    intro s160 b197 h198
    unfold g_R6_names_l2 at h198
    refine dwp_seq ?_
    refine rs env_ok ?_
    refine rn 3 rfl ?_
    refine sx rfl (o_len rfl rfl ?_)
    refine rl rfl ?_
    refine cd rfl h198 (fun h201 => ?_) (fun h210 => ?_) <;> clear h198
    · refine dwp_skip ?_
      refine thenD_n ?_
      refine dwp_seq ?_
      refine dwp_block ?_
      refine rg env_ok ?_
      refine rn 4 rfl ?_
      obtain ⟨y206, ey206, h207⟩ := bd h201; clear h201
      refine sx rfl (o_idx ey206 rfl rfl rfl ?_)
      refine rn 3 rfl ?_
      obtain ⟨y208, ey208, h209⟩ := bd h207; clear h207
      refine sx rfl (o_app1 (enc := strC) (l := s160.2) (m := [y206.name]) ey208 (fun _ => ⟨rfl, rfl⟩) rfl rfl rfl rfl rfl rfl ?_)
      refine rl rfl ?_
      refine inB_n ?_
      refine thenD_n ?_
      refine rg env_ok ?_
      refine rl rfl ?_
      have hr := Option.some.inj h209; subst hr
      exact lpn (wk [(0, 0), (1, 1), (2, 4)] (free hA _) rfl rfl rfl (.cons rfl (.cons rfl (.cons rfl (.cons rfl (.cons rfl .nil))))) (.cons rfl rfl (.cons rfl rfl (.cons rfl rfl .nil))))
    · refine dwp_exit ?_
      refine thenD_x ?_
      obtain ⟨a211, h212, rfl⟩ := mp h210; clear h210
      refine lpx ?_
      refine inB_x ?_
      refine thenD_n ?_
      refine dwp_seq ?_
      refine rs env_ok ?_
      refine rl rfl ?_
      refine dwp_block ?_
      apply lp (a := a211) (fun s266 : (Int × (List ByteArray)) => ⟨62, [(1, .lpb 0 0), (5, .lsl 1 1 0 s54.2.length), (6, .lsl 2 1 0 s160.2.length), (7, .lsl 3 1 0 s266.2.length), (10, .p (.int .i64 s266.1))], [(0, .box [.p (.slice 3 (x0.elems.map elemC)), .p (.slice 4 (x0.joins.map joinC)), .p (.slice 4 (x0.signals.map signalC)), .p (.slice 2 (x0.lines.map lineC)), .p (.int .i64 x0.top), .p (.int .i64 x0.brake), .p (.int .i64 x0.margin), .p (.int .i64 x0.throw), .p (.bool x0.hard)]), (1, .row 9 1 (s54.2.map strC)), (2, .row 9 1 (s160.2.map strC)), (3, .row 9 1 (s266.2.map strC))], 4⟩) h212 <;> clear h212
      · exact Weak.trans (weak_ghost 7 9 1 rfl) (wk [(0, 0), (1, 1), (2, 2), (3, 3)] (free hA _) rfl rfl rfl (.cons rfl (.cons rfl (.cons rfl (.cons rfl (.cons rfl .nil))))) (.cons rfl rfl (.cons rfl rfl (.cons rfl rfl (.cons rfl rfl .nil)))))
      intro s266 b303 h304
      unfold g_R6_names_l3 at h304
      refine dwp_seq ?_
      refine rs env_ok ?_
      refine rn 3 rfl ?_
      refine sx rfl (o_len rfl rfl ?_)
      refine rl rfl ?_
      refine cd rfl h304 (fun h307 => ?_) (fun h316 => ?_) <;> clear h304
      · refine dwp_skip ?_
        refine thenD_n ?_
        refine dwp_seq ?_
        refine dwp_block ?_
        refine rg env_ok ?_
        refine rn 4 rfl ?_
        obtain ⟨y312, ey312, h313⟩ := bd h307; clear h307
        refine sx rfl (o_idx ey312 rfl rfl rfl ?_)
        refine rn 3 rfl ?_
        obtain ⟨y314, ey314, h315⟩ := bd h313; clear h313
        refine sx rfl (o_app1 (enc := strC) (l := s266.2) (m := [y312.name]) ey314 (fun _ => ⟨rfl, rfl⟩) rfl rfl rfl rfl rfl rfl ?_)
        refine rl rfl ?_
        refine inB_n ?_
        refine thenD_n ?_
        refine rg env_ok ?_
        refine rl rfl ?_
        have hr := Option.some.inj h315; subst hr
        exact lpn (wk [(0, 0), (1, 1), (2, 2), (3, 5)] (free hA _) rfl rfl rfl (.cons rfl (.cons rfl (.cons rfl (.cons rfl (.cons rfl .nil))))) (.cons rfl rfl (.cons rfl rfl (.cons rfl rfl (.cons rfl rfl .nil)))))
      · refine dwp_exit ?_
        refine thenD_x ?_
        obtain ⟨a317, h318, rfl⟩ := mps h316; clear h316
        refine lpx ?_
        refine inB_x ?_
        refine thenD_n ?_
        refine rs env_ok ?_
        refine rl rfl ?_
        refine dwp_ret ?_
        have hr := Option.some.inj h318; subst hr
        exact er (rdN rfl (.cons (.one (.own (enc := strC) s54.2 rfl rfl)) (.cons (.one (.own (enc := strC) s160.2 rfl rfl)) (.cons (.one (.own (enc := strC) s266.2 rfl rfl)) .nil)))) Le.rfl

noncomputable def g_R6_within (x0 : Int) (x1 : Int) (x2 : Int) : Option Bool :=
  ((bif decide (x1 ≤ x0) then some (decide (x0 ≤ x2)) else some false : Option (Bool))).bind fun (t3 : Bool) => some t3

theorem f_R6_within (x0 : Int) (x1 : Int) (x2 : Int) (r : Bool) (h : g_R6_within x0 x1 x2 = some r) : Fun Try.prog 97 [.int .i64 x0, .int .i64 x1, .int .i64 x2] (· = .bool r) := by
  refine fn env_ok Try.func97 rfl rfl 15 rfl [.tmp 6] rfl [(0, .p (.int .i64 x0)), (1, .p (.int .i64 x1)), (2, .p (.int .i64 x2))] rfl rfl fun A hA => ?_
  unfold g_R6_within at h
  refine rs env_ok ?_
  refine rl rfl ?_
  refine jb (fun t3 : Bool => ⟨15, [(6, .p (.bool t3))], [], 0⟩) h (fun t3 h4 => ?_) (fun t3 h7 => ?_) <;> clear h
  · refine rg env_ok ?_
    refine rn 4 rfl ?_
    refine gs 10 h4 rfl rfl rfl (fun h5 => ?_) (fun h6 => ?_) <;> clear h4
    · refine rl rfl ?_
      have hr := Option.some.inj h5; subst hr
      exact npn (wk [] (free hA _) rfl rfl rfl (.cons rfl .nil) .nil)
    · refine rl rfl ?_
      have hr := Option.some.inj h6; subst hr
      exact npn (wk [] (free hA _) rfl rfl rfl (.cons rfl .nil) .nil)
  · refine dwp_ret ?_
    have hr := Option.some.inj h7; subst hr
    exact er rfl Le.rfl

noncomputable def g_R6_Name_l1 (x0 : ByteArray) (s260 : Int) : Option (Int ⊕ Bool) :=
  bif decide (s260 < (x0.size : Int)) then (idxS x0 s260).bind fun y476 => ((bif decide (97 ≤ (y476.toNat : Int)) then bif decide ((y476.toNat : Int) ≤ 122) then some true else bif decide (65 ≤ (y476.toNat : Int)) then some (decide ((y476.toNat : Int) ≤ 90)) else some false else bif decide (65 ≤ (y476.toNat : Int)) then some (decide ((y476.toNat : Int) ≤ 90)) else some false : Option (Bool))).bind fun (t486 : Bool) => ((bif (!t486) then bif (s260 == 0) then some true else bif decide ((y476.toNat : Int) < 48) then some true else some (decide (57 < (y476.toNat : Int))) else some false : Option (Bool))).bind fun (t503 : Bool) => bif t503 then some (.inr false) else some (.inl (wi64 (s260 + 1))) else (((bif decide (1 ≤ (x0.size : Int)) then some (decide ((x0.size : Int) ≤ 8)) else some false : Option (Bool))).bind fun (t521 : Bool) => some t521).map .inr

noncomputable def g_R6_Name (x0 : ByteArray) : Option Bool :=
  loopR (g_R6_Name_l1 x0) 0

theorem f_R6_Name (x0 : ByteArray) (r : Bool) (h : g_R6_Name x0 = some r) : Fun Try.prog 98 [.str x0] (· = .bool r) := by
  refine fn env_ok Try.func98 rfl rfl 51 rfl [.tmp 2] rfl [(0, .p (.str x0))] rfl rfl fun A hA => ?_
  unfold g_R6_Name at h
  refine rs env_ok ?_
  refine rl rfl ?_
  refine dwp_seq ?_
  refine rs env_ok ?_
  refine rl rfl ?_
  refine dwp_block ?_
  apply lp (a := r) (fun s260 : Int => ⟨51, [(0, .p (.str x0)), (3, .p (.int .i64 s260))], [], 0⟩) h <;> clear h
  · exact wk [] (free hA _) rfl rfl rfl (.cons rfl (.cons rfl .nil)) .nil
  intro s260 b429 h430
  unfold g_R6_Name_l1 at h430
  refine dwp_seq ?_
  refine rs env_ok ?_
  refine rl rfl ?_
  refine cd rfl h430 (fun h433 => ?_) (fun h516 => ?_) <;> clear h430
  · refine dwp_skip ?_
    refine thenD_n ?_
    refine dwp_seq ?_
    refine dwp_block ?_
    refine rs env_ok ?_
    refine rn 2 rfl ?_
    obtain ⟨y476, ey476, h477⟩ := bd h433; clear h433
    refine sx rfl (o_idxS ey476 rfl rfl rfl ?_)
    refine rl rfl ?_
    refine jb (fun t486 : Bool => ⟨51, [(0, .p (.str x0)), (3, .p (.int .i64 s260)), (4, .p (.int .u8 (y476.toNat : Int))), (5, .p (.bool t486))], [], 0⟩) h477 (fun t486 h487 => ?_) (fun t486 h496 => ?_) <;> clear h477
    · refine rg env_ok ?_
      refine rn 3 rfl ?_
      refine gs 17 h487 rfl rfl rfl (fun h488 => ?_) (fun h493 => ?_) <;> clear h487
      · refine rn 4 rfl ?_
        refine gs 21 h488 rfl rfl rfl (fun h489 => ?_) (fun h490 => ?_) <;> clear h488
        · refine rl rfl ?_
          have hr := Option.some.inj h489; subst hr
          exact npn (wk [] (free hA _) rfl rfl rfl (.cons rfl (.cons rfl (.cons rfl (.cons rfl .nil)))) .nil)
        · refine rn 3 rfl ?_
          refine gs 24 h490 rfl rfl rfl (fun h491 => ?_) (fun h492 => ?_) <;> clear h490
          · refine rl rfl ?_
            have hr := Option.some.inj h491; subst hr
            exact npn (wk [] (free hA _) rfl rfl rfl (.cons rfl (.cons rfl (.cons rfl (.cons rfl .nil)))) .nil)
          · refine rl rfl ?_
            have hr := Option.some.inj h492; subst hr
            exact npn (wk [] (free hA _) rfl rfl rfl (.cons rfl (.cons rfl (.cons rfl (.cons rfl .nil)))) .nil)
      · refine rn 7 rfl ?_
        refine gs 24 h493 rfl rfl rfl (fun h494 => ?_) (fun h495 => ?_) <;> clear h493
        · refine rl rfl ?_
          have hr := Option.some.inj h494; subst hr
          exact npn (wk [] (free hA _) rfl rfl rfl (.cons rfl (.cons rfl (.cons rfl (.cons rfl .nil)))) .nil)
        · refine rl rfl ?_
          have hr := Option.some.inj h495; subst hr
          exact npn (wk [] (free hA _) rfl rfl rfl (.cons rfl (.cons rfl (.cons rfl (.cons rfl .nil)))) .nil)
    · refine jb (fun t503 : Bool => ⟨51, [(0, .p (.str x0)), (3, .p (.int .i64 s260)), (42, .p (.bool t503))], [], 0⟩) h496 (fun t503 h504 => ?_) (fun t503 h511 => ?_) <;> clear h496
      · refine rg env_ok ?_
        refine rn 3 rfl ?_
        refine gs 31 h504 rfl rfl rfl (fun h505 => ?_) (fun h510 => ?_) <;> clear h504
        · refine rn 3 rfl ?_
          refine gs 34 h505 rfl rfl rfl (fun h506 => ?_) (fun h507 => ?_) <;> clear h505
          · refine rl rfl ?_
            have hr := Option.some.inj h506; subst hr
            exact npn (wk [] (free hA _) rfl rfl rfl (.cons rfl (.cons rfl (.cons rfl .nil))) .nil)
          · refine rn 4 rfl ?_
            refine gs 38 h507 rfl rfl rfl (fun h508 => ?_) (fun h509 => ?_) <;> clear h507
            · refine rl rfl ?_
              have hr := Option.some.inj h508; subst hr
              exact npn (wk [] (free hA _) rfl rfl rfl (.cons rfl (.cons rfl (.cons rfl .nil))) .nil)
            · refine rl rfl ?_
              have hr := Option.some.inj h509; subst hr
              exact npn (wk [] (free hA _) rfl rfl rfl (.cons rfl (.cons rfl (.cons rfl .nil))) .nil)
        · refine rl rfl ?_
          have hr := Option.some.inj h510; subst hr
          exact npn (wk [] (free hA _) rfl rfl rfl (.cons rfl (.cons rfl (.cons rfl .nil))) .nil)
      · refine cd rfl h511 (fun h512 => ?_) (fun h515 => ?_) <;> clear h511
        · refine rs env_ok ?_
          refine rl rfl ?_
          refine dwp_ret ?_
          refine inB_r ?_
          refine thenD_r ?_
          obtain ⟨a513, h514, rfl⟩ := mps h512; clear h512
          refine lpt ?_
          refine inB_r ?_
          refine thenD_r ?_
          have hr := Option.some.inj h514; subst hr
          exact er rfl Le.rfl
        · refine dwp_skip ?_
          refine inB_n ?_
          refine thenD_n ?_
          refine rg env_ok ?_
          refine rl rfl ?_
          have hr := Option.some.inj h515; subst hr
          exact lpn (wk [] (free hA _) rfl rfl rfl (.cons rfl (.cons rfl .nil)) .nil)
  · refine dwp_exit ?_
    refine thenD_x ?_
    obtain ⟨a517, h518, rfl⟩ := mp h516; clear h516
    refine lpx ?_
    refine inB_x ?_
    refine thenD_n ?_
    refine jb (fun t521 : Bool => ⟨51, [(2, .p (.bool t521))], [], 0⟩) h518 (fun t521 h522 => ?_) (fun t521 h525 => ?_) <;> clear h518
    · refine rg env_ok ?_
      refine rn 4 rfl ?_
      refine gs 46 h522 rfl rfl rfl (fun h523 => ?_) (fun h524 => ?_) <;> clear h522
      · refine rl rfl ?_
        have hr := Option.some.inj h523; subst hr
        exact npn (wk [] (free hA _) rfl rfl rfl (.cons rfl .nil) .nil)
      · refine rl rfl ?_
        have hr := Option.some.inj h524; subst hr
        exact npn (wk [] (free hA _) rfl rfl rfl (.cons rfl .nil) .nil)
    · refine dwp_ret ?_
      have hr := Option.some.inj h525; subst hr
      exact er rfl Le.rfl

noncomputable def g_R6_Ends (x0 : Int) : Option Int :=
  bif (x0 == 1) then some 2 else bif (x0 == 2) then some 3 else bif (x0 == 3) then some 4 else bif (x0 == 4) then some 1 else some 0

theorem f_R6_Ends (x0 : Int) (r : Int) (h : g_R6_Ends x0 = some r) : Fun Try.prog 36 [.int .i64 x0] (· = .int .i64 r) := by
  refine fn env_ok Try.func36 rfl rfl 12 rfl [.tmp 2] rfl [(0, .p (.int .i64 x0))] rfl rfl fun A hA => ?_
  unfold g_R6_Ends at h
  refine rs env_ok ?_
  refine rl rfl ?_
  refine dwp_seq ?_
  refine rs env_ok ?_
  refine rl rfl ?_
  refine dwp_block ?_
  refine rs env_ok ?_
  refine rl rfl ?_
  refine cd rfl h (fun h9 => ?_) (fun h10 => ?_) <;> clear h
  · refine rs env_ok ?_
    refine rl rfl ?_
    refine dwp_ret ?_
    refine inB_r ?_
    refine thenD_r ?_
    have hr := Option.some.inj h9; subst hr
    exact er rfl Le.rfl
  · refine rs env_ok ?_
    refine rl rfl ?_
    refine cd rfl h10 (fun h11 => ?_) (fun h12 => ?_) <;> clear h10
    · refine rs env_ok ?_
      refine rl rfl ?_
      refine dwp_ret ?_
      refine inB_r ?_
      refine thenD_r ?_
      have hr := Option.some.inj h11; subst hr
      exact er rfl Le.rfl
    · refine rs env_ok ?_
      refine rl rfl ?_
      refine cd rfl h12 (fun h13 => ?_) (fun h14 => ?_) <;> clear h12
      · refine rs env_ok ?_
        refine rl rfl ?_
        refine dwp_ret ?_
        refine inB_r ?_
        refine thenD_r ?_
        have hr := Option.some.inj h13; subst hr
        exact er rfl Le.rfl
      · refine rs env_ok ?_
        refine rl rfl ?_
        refine cd rfl h14 (fun h15 => ?_) (fun h16 => ?_) <;> clear h14
        · refine rs env_ok ?_
          refine rl rfl ?_
          refine dwp_ret ?_
          refine inB_r ?_
          refine thenD_r ?_
          have hr := Option.some.inj h15; subst hr
          exact er rfl Le.rfl
        · refine dwp_skip ?_
          refine inB_n ?_
          refine thenD_n ?_
          refine rs env_ok ?_
          refine rl rfl ?_
          refine dwp_ret ?_
          have hr := Option.some.inj h16; subst hr
          exact er rfl Le.rfl

noncomputable def g_R6_args_l3 (x0 : Plan) (s938 : Int) : Option (Int ⊕ Bool) :=
  bif decide (s938 < (x0.lines.length : Int)) then (idx x0.lines s938).bind fun y1006 => (g_R6_Name y1006.name).bind fun y1008 => bif (!y1008) then some (.inr false) else some (.inl (wi64 (s938 + 1))) else some (.inr true)

noncomputable def g_R6_args_l2 (x0 : Plan) (s780 : Int) : Option (Int ⊕ Bool) :=
  bif decide (s780 < (x0.signals.length : Int)) then (idx x0.signals s780).bind fun y848 => (g_R6_Name y848.name).bind fun y850 => bif (!y850) then some (.inr false) else some (.inl (wi64 (s780 + 1))) else (loopR (g_R6_args_l3 x0) 0).map .inr

noncomputable def g_R6_args_l1 (x0 : Plan) (s388 : Int) : Option (Int ⊕ Bool) :=
  bif decide (s388 < (x0.elems.length : Int)) then (idx x0.elems s388).bind fun y649 => (((g_R6_Name y649.name).bind fun y673 => bif (!y673) then some true else (g_R6_Ends y649.kind).bind fun y677 => bif (y677 == 0) then some true else bif (y649.kind == 4) then bif (y649.length != 0) then some true else bif (y649.kind != 4) then (g_R6_within y649.length 1 4000).bind fun y685 => some (!y685) else some false else bif (y649.kind != 4) then (g_R6_within y649.length 1 4000).bind fun y690 => some (!y690) else some false : Option (Bool))).bind fun (t671 : Bool) => bif t671 then some (.inr false) else some (.inl (wi64 (s388 + 1))) else (loopR (g_R6_args_l2 x0) 0).map .inr

noncomputable def g_R6_args (x0 : Plan) : Option Bool :=
  (((g_R6_within x0.top 1 60).bind fun y56 => bif (!y56) then some true else (g_R6_within x0.brake 1 10).bind fun y60 => bif (!y60) then some true else (g_R6_within x0.margin 1 4000).bind fun y64 => bif (!y64) then some true else (g_R6_within x0.throw 1 20).bind fun y68 => bif (!y68) then some true else some ((x0.elems.length : Int) == 0) : Option (Bool))).bind fun (t54 : Bool) => bif t54 then some false else loopR (g_R6_args_l1 x0) 0

theorem f_R6_args (x0 : Plan) (r : Bool) (h : g_R6_args x0 = some r) : Fun Try.prog 77 [.agg (planC x0)] (· = .bool r) := by
  refine fn env_ok Try.func77 rfl rfl 108 rfl [.tmp 2] rfl [(0, .p (.agg (planC x0)))] rfl rfl fun A hA => ?_
  unfold g_R6_args at h
  refine rs env_ok ?_
  refine rl rfl ?_
  refine dwp_seq ?_
  refine jb (fun t54 : Bool => ⟨108, [(1, .lpb 0 0), (34, .p (.bool t54))], [(0, .box [.p (.slice 3 (x0.elems.map elemC)), .p (.slice 4 (x0.joins.map joinC)), .p (.slice 4 (x0.signals.map signalC)), .p (.slice 2 (x0.lines.map lineC)), .p (.int .i64 x0.top), .p (.int .i64 x0.brake), .p (.int .i64 x0.margin), .p (.int .i64 x0.throw), .p (.bool x0.hard)])], 1⟩) h (fun t54 h55 => ?_) (fun t54 h72 => ?_) <;> clear h
  · refine rg env_ok ?_
    refine rn 2 rfl ?_
    obtain ⟨y56, ey56, h57⟩ := bd h55; clear h55
    refine sx rfl (o_call (f_R6_within _ _ _ _ ey56) (.inl rfl) rfl rfl rfl ?_)
    refine rn 2 rfl ?_
    refine gs 11 h57 rfl rfl rfl (fun h58 => ?_) (fun h59 => ?_) <;> clear h57
    · refine rl rfl ?_
      have hr := Option.some.inj h58; subst hr
      exact npn (wk [(0, 0)] (free hA _) rfl rfl rfl (.cons rfl (.cons rfl .nil)) (.cons rfl rfl .nil))
    · refine rn 2 rfl ?_
      obtain ⟨y60, ey60, h61⟩ := bd h59; clear h59
      refine sx rfl (o_call (f_R6_within _ _ _ _ ey60) (.inl rfl) rfl rfl rfl ?_)
      refine rn 3 rfl ?_
      refine gs 17 h61 rfl rfl rfl (fun h62 => ?_) (fun h63 => ?_) <;> clear h61
      · refine rl rfl ?_
        have hr := Option.some.inj h62; subst hr
        exact npn (wk [(0, 0)] (free hA _) rfl rfl rfl (.cons rfl (.cons rfl .nil)) (.cons rfl rfl .nil))
      · refine rn 2 rfl ?_
        obtain ⟨y64, ey64, h65⟩ := bd h63; clear h63
        refine sx rfl (o_call (f_R6_within _ _ _ _ ey64) (.inl rfl) rfl rfl rfl ?_)
        refine rn 3 rfl ?_
        refine gs 23 h65 rfl rfl rfl (fun h66 => ?_) (fun h67 => ?_) <;> clear h65
        · refine rl rfl ?_
          have hr := Option.some.inj h66; subst hr
          exact npn (wk [(0, 0)] (free hA _) rfl rfl rfl (.cons rfl (.cons rfl .nil)) (.cons rfl rfl .nil))
        · refine rn 2 rfl ?_
          obtain ⟨y68, ey68, h69⟩ := bd h67; clear h67
          refine sx rfl (o_call (f_R6_within _ _ _ _ ey68) (.inl rfl) rfl rfl rfl ?_)
          refine rn 3 rfl ?_
          refine gs 29 h69 rfl rfl rfl (fun h70 => ?_) (fun h71 => ?_) <;> clear h69
          · refine rl rfl ?_
            have hr := Option.some.inj h70; subst hr
            exact npn (wk [(0, 0)] (free hA _) rfl rfl rfl (.cons rfl (.cons rfl .nil)) (.cons rfl rfl .nil))
          · refine rn 2 rfl ?_
            refine sx rfl (o_len rfl rfl ?_)
            refine rl rfl ?_
            have hr := Option.some.inj h71; subst hr
            exact npn (wk [(0, 0)] (free hA _) rfl rfl rfl (.cons rfl (.cons rfl .nil)) (.cons rfl rfl .nil))
  · refine cd rfl h72 (fun h73 => ?_) (fun h74 => ?_) <;> clear h72
    · refine rs env_ok ?_
      refine rl rfl ?_
      refine dwp_ret ?_
      refine thenD_r ?_
      have hr := Option.some.inj h73; subst hr
      exact er rfl Le.rfl
    · refine dwp_skip ?_
      refine thenD_n ?_
      refine dwp_seq ?_
      refine rs env_ok ?_
      refine rl rfl ?_
      refine dwp_block ?_
      apply lp (a := r) (fun s388 : Int => ⟨108, [(1, .lpb 0 0), (3, .p (.int .i64 s388))], [(0, .box [.p (.slice 3 (x0.elems.map elemC)), .p (.slice 4 (x0.joins.map joinC)), .p (.slice 4 (x0.signals.map signalC)), .p (.slice 2 (x0.lines.map lineC)), .p (.int .i64 x0.top), .p (.int .i64 x0.brake), .p (.int .i64 x0.margin), .p (.int .i64 x0.throw), .p (.bool x0.hard)])], 1⟩) h74 <;> clear h74
      · exact wk [(0, 0)] (free hA _) rfl rfl rfl (.cons rfl (.cons rfl .nil)) (.cons rfl rfl .nil)
      intro s388 b593 h594
      unfold g_R6_args_l1 at h594
      refine dwp_seq ?_
      refine rs env_ok ?_
      refine rn 3 rfl ?_
      refine sx rfl (o_len rfl rfl ?_)
      refine rl rfl ?_
      refine cd rfl h594 (fun h597 => ?_) (fun h698 => ?_) <;> clear h594
      · refine dwp_skip ?_
        refine thenD_n ?_
        refine dwp_seq ?_
        refine dwp_block ?_
        refine rs env_ok ?_
        refine rn 3 rfl ?_
        obtain ⟨y649, ey649, h650⟩ := bd h597; clear h597
        refine sx rfl (o_idx ey649 rfl rfl rfl ?_)
        refine rl rfl ?_
        refine jb (fun t671 : Bool => ⟨108, [(1, .lpb 0 0), (3, .p (.int .i64 s388)), (77, .p (.bool t671))], [(0, .box [.p (.slice 3 (x0.elems.map elemC)), .p (.slice 4 (x0.joins.map joinC)), .p (.slice 4 (x0.signals.map signalC)), .p (.slice 2 (x0.lines.map lineC)), .p (.int .i64 x0.top), .p (.int .i64 x0.brake), .p (.int .i64 x0.margin), .p (.int .i64 x0.throw), .p (.bool x0.hard)])], 1⟩) h650 (fun t671 h672 => ?_) (fun t671 h693 => ?_) <;> clear h650
        · refine rg env_ok ?_
          refine rn 2 rfl ?_
          obtain ⟨y673, ey673, h674⟩ := bd h672; clear h672
          refine sx rfl (o_call (f_R6_Name _ _ ey673) (.inl rfl) rfl rfl rfl ?_)
          refine rn 2 rfl ?_
          refine gs 51 h674 rfl rfl rfl (fun h675 => ?_) (fun h676 => ?_) <;> clear h674
          · refine rl rfl ?_
            have hr := Option.some.inj h675; subst hr
            exact npn (wk [(0, 0)] (free hA _) rfl rfl rfl (.cons rfl (.cons rfl (.cons rfl .nil))) (.cons rfl rfl .nil))
          · refine rn 2 rfl ?_
            obtain ⟨y677, ey677, h678⟩ := bd h676; clear h676
            refine sx rfl (o_call (f_R6_Ends _ _ ey677) (.inl rfl) rfl rfl rfl ?_)
            refine rn 3 rfl ?_
            refine gs 57 h678 rfl rfl rfl (fun h679 => ?_) (fun h680 => ?_) <;> clear h678
            · refine rl rfl ?_
              have hr := Option.some.inj h679; subst hr
              exact npn (wk [(0, 0)] (free hA _) rfl rfl rfl (.cons rfl (.cons rfl (.cons rfl .nil))) (.cons rfl rfl .nil))
            · refine rn 4 rfl ?_
              refine gs 61 h680 rfl rfl rfl (fun h681 => ?_) (fun h688 => ?_) <;> clear h680
              · refine rn 6 rfl ?_
                refine gs 67 h681 rfl rfl rfl (fun h682 => ?_) (fun h683 => ?_) <;> clear h681
                · refine rl rfl ?_
                  have hr := Option.some.inj h682; subst hr
                  exact npn (wk [(0, 0)] (free hA _) rfl rfl rfl (.cons rfl (.cons rfl (.cons rfl .nil))) (.cons rfl rfl .nil))
                · refine rn 4 rfl ?_
                  refine gs 71 h683 rfl rfl rfl (fun h684 => ?_) (fun h687 => ?_) <;> clear h683
                  · refine rn 2 rfl ?_
                    obtain ⟨y685, ey685, h686⟩ := bd h684; clear h684
                    refine sx rfl (o_call (f_R6_within _ _ _ _ ey685) (.inl rfl) rfl rfl rfl ?_)
                    refine rl rfl ?_
                    have hr := Option.some.inj h686; subst hr
                    exact npn (wk [(0, 0)] (free hA _) rfl rfl rfl (.cons rfl (.cons rfl (.cons rfl .nil))) (.cons rfl rfl .nil))
                  · refine rl rfl ?_
                    have hr := Option.some.inj h687; subst hr
                    exact npn (wk [(0, 0)] (free hA _) rfl rfl rfl (.cons rfl (.cons rfl (.cons rfl .nil))) (.cons rfl rfl .nil))
              · refine rn 10 rfl ?_
                refine gs 71 h688 rfl rfl rfl (fun h689 => ?_) (fun h692 => ?_) <;> clear h688
                · refine rn 2 rfl ?_
                  obtain ⟨y690, ey690, h691⟩ := bd h689; clear h689
                  refine sx rfl (o_call (f_R6_within _ _ _ _ ey690) (.inl rfl) rfl rfl rfl ?_)
                  refine rl rfl ?_
                  have hr := Option.some.inj h691; subst hr
                  exact npn (wk [(0, 0)] (free hA _) rfl rfl rfl (.cons rfl (.cons rfl (.cons rfl .nil))) (.cons rfl rfl .nil))
                · refine rl rfl ?_
                  have hr := Option.some.inj h692; subst hr
                  exact npn (wk [(0, 0)] (free hA _) rfl rfl rfl (.cons rfl (.cons rfl (.cons rfl .nil))) (.cons rfl rfl .nil))
        · refine cd rfl h693 (fun h694 => ?_) (fun h697 => ?_) <;> clear h693
          · refine rs env_ok ?_
            refine rl rfl ?_
            refine dwp_ret ?_
            refine inB_r ?_
            refine thenD_r ?_
            obtain ⟨a695, h696, rfl⟩ := mps h694; clear h694
            refine lpt ?_
            refine inB_r ?_
            refine thenD_r ?_
            have hr := Option.some.inj h696; subst hr
            exact er rfl Le.rfl
          · refine dwp_skip ?_
            refine inB_n ?_
            refine thenD_n ?_
            refine rg env_ok ?_
            refine rl rfl ?_
            have hr := Option.some.inj h697; subst hr
            exact lpn (wk [(0, 0)] (free hA _) rfl rfl rfl (.cons rfl (.cons rfl .nil)) (.cons rfl rfl .nil))
      · refine dwp_exit ?_
        refine thenD_x ?_
        obtain ⟨a699, h700, rfl⟩ := mp h698; clear h698
        refine lpx ?_
        refine inB_x ?_
        refine thenD_n ?_
        refine dwp_seq ?_
        refine rs env_ok ?_
        refine rl rfl ?_
        refine dwp_block ?_
        apply lp (a := a699) (fun s780 : Int => ⟨108, [(1, .lpb 0 0), (5, .p (.int .i64 s780))], [(0, .box [.p (.slice 3 (x0.elems.map elemC)), .p (.slice 4 (x0.joins.map joinC)), .p (.slice 4 (x0.signals.map signalC)), .p (.slice 2 (x0.lines.map lineC)), .p (.int .i64 x0.top), .p (.int .i64 x0.brake), .p (.int .i64 x0.margin), .p (.int .i64 x0.throw), .p (.bool x0.hard)])], 1⟩) h700 <;> clear h700
        · exact wk [(0, 0)] (free hA _) rfl rfl rfl (.cons rfl (.cons rfl .nil)) (.cons rfl rfl .nil)
        intro s780 b829 h830
        unfold g_R6_args_l2 at h830
        refine dwp_seq ?_
        refine rs env_ok ?_
        refine rn 3 rfl ?_
        refine sx rfl (o_len rfl rfl ?_)
        refine rl rfl ?_
        refine cd rfl h830 (fun h833 => ?_) (fun h856 => ?_) <;> clear h830
        · refine dwp_skip ?_
          refine thenD_n ?_
          refine dwp_seq ?_
          refine dwp_block ?_
          refine rs env_ok ?_
          refine rn 3 rfl ?_
          obtain ⟨y848, ey848, h849⟩ := bd h833; clear h833
          refine sx rfl (o_idx ey848 rfl rfl rfl ?_)
          refine rn 2 rfl ?_
          obtain ⟨y850, ey850, h851⟩ := bd h849; clear h849
          refine sx rfl (o_call (f_R6_Name _ _ ey850) (.inl rfl) rfl rfl rfl ?_)
          refine rl rfl ?_
          refine cd rfl h851 (fun h852 => ?_) (fun h855 => ?_) <;> clear h851
          · refine rs env_ok ?_
            refine rl rfl ?_
            refine dwp_ret ?_
            refine inB_r ?_
            refine thenD_r ?_
            obtain ⟨a853, h854, rfl⟩ := mps h852; clear h852
            refine lpt ?_
            refine inB_r ?_
            refine thenD_r ?_
            have hr := Option.some.inj h854; subst hr
            exact er rfl Le.rfl
          · refine dwp_skip ?_
            refine inB_n ?_
            refine thenD_n ?_
            refine rg env_ok ?_
            refine rl rfl ?_
            have hr := Option.some.inj h855; subst hr
            exact lpn (wk [(0, 0)] (free hA _) rfl rfl rfl (.cons rfl (.cons rfl .nil)) (.cons rfl rfl .nil))
        · refine dwp_exit ?_
          refine thenD_x ?_
          obtain ⟨a857, h858, rfl⟩ := mp h856; clear h856
          refine lpx ?_
          refine inB_x ?_
          refine thenD_n ?_
          refine dwp_seq ?_
          refine rs env_ok ?_
          refine rl rfl ?_
          refine dwp_block ?_
          apply lp (a := a857) (fun s938 : Int => ⟨108, [(1, .lpb 0 0), (6, .p (.int .i64 s938))], [(0, .box [.p (.slice 3 (x0.elems.map elemC)), .p (.slice 4 (x0.joins.map joinC)), .p (.slice 4 (x0.signals.map signalC)), .p (.slice 2 (x0.lines.map lineC)), .p (.int .i64 x0.top), .p (.int .i64 x0.brake), .p (.int .i64 x0.margin), .p (.int .i64 x0.throw), .p (.bool x0.hard)])], 1⟩) h858 <;> clear h858
          · exact wk [(0, 0)] (free hA _) rfl rfl rfl (.cons rfl (.cons rfl .nil)) (.cons rfl rfl .nil)
          intro s938 b987 h988
          unfold g_R6_args_l3 at h988
          refine dwp_seq ?_
          refine rs env_ok ?_
          refine rn 3 rfl ?_
          refine sx rfl (o_len rfl rfl ?_)
          refine rl rfl ?_
          refine cd rfl h988 (fun h991 => ?_) (fun h1014 => ?_) <;> clear h988
          · refine dwp_skip ?_
            refine thenD_n ?_
            refine dwp_seq ?_
            refine dwp_block ?_
            refine rs env_ok ?_
            refine rn 3 rfl ?_
            obtain ⟨y1006, ey1006, h1007⟩ := bd h991; clear h991
            refine sx rfl (o_idx ey1006 rfl rfl rfl ?_)
            refine rn 2 rfl ?_
            obtain ⟨y1008, ey1008, h1009⟩ := bd h1007; clear h1007
            refine sx rfl (o_call (f_R6_Name _ _ ey1008) (.inl rfl) rfl rfl rfl ?_)
            refine rl rfl ?_
            refine cd rfl h1009 (fun h1010 => ?_) (fun h1013 => ?_) <;> clear h1009
            · refine rs env_ok ?_
              refine rl rfl ?_
              refine dwp_ret ?_
              refine inB_r ?_
              refine thenD_r ?_
              obtain ⟨a1011, h1012, rfl⟩ := mps h1010; clear h1010
              refine lpt ?_
              refine inB_r ?_
              refine thenD_r ?_
              have hr := Option.some.inj h1012; subst hr
              exact er rfl Le.rfl
            · refine dwp_skip ?_
              refine inB_n ?_
              refine thenD_n ?_
              refine rg env_ok ?_
              refine rl rfl ?_
              have hr := Option.some.inj h1013; subst hr
              exact lpn (wk [(0, 0)] (free hA _) rfl rfl rfl (.cons rfl (.cons rfl .nil)) (.cons rfl rfl .nil))
          · refine dwp_exit ?_
            refine thenD_x ?_
            obtain ⟨a1015, h1016, rfl⟩ := mps h1014; clear h1014
            refine lpx ?_
            refine inB_x ?_
            refine thenD_n ?_
            refine rs env_ok ?_
            refine rl rfl ?_
            refine dwp_ret ?_
            have hr := Option.some.inj h1016; subst hr
            exact er rfl Le.rfl

end Go.E
/- Plain functions, and walks in step with them. Written by a program (gen.py). No condition. -/
set_option maxRecDepth 100000
namespace Go.E
open Go Go.RowKit Go.Proofs

noncomputable def g_R6_twice_l2 (x0 : (List ByteArray)) (s494 : Int) (s903 : Int) : Option (Int ⊕ (Int ⊕ Bool)) :=
  bif decide (s903 < s494) then (idx x0 s494).bind fun y971 => (idx x0 s903).bind fun y973 => bif (y971.toList == y973.toList) then some (.inr (.inr true)) else some (.inl (wi64 (s903 + 1))) else some (.inr (.inl (wi64 (s494 + 1))))

noncomputable def g_R6_twice_l1 (x0 : (List ByteArray)) (s494 : Int) : Option (Int ⊕ Bool) :=
  bif decide (s494 < (x0.length : Int)) then loopR (g_R6_twice_l2 x0 s494) 0 else some (.inr false)

noncomputable def g_R6_twice (x0 : (List ByteArray)) : Option Bool :=
  loopR (g_R6_twice_l1 x0) 0

theorem f_R6_twice (x0 : (List ByteArray)) (r : Bool) (h : g_R6_twice x0 = some r) : Fun Try.prog 78 [.slice 1 (x0.map strC)] (· = .bool r) := by
  refine fn env_ok Try.func78 rfl rfl 25 rfl [.tmp 2] rfl [(0, .p (.slice 1 (x0.map strC)))] rfl rfl fun A hA => ?_
  unfold g_R6_twice at h
  refine rs env_ok ?_
  refine rl rfl ?_
  refine dwp_seq ?_
  refine rs env_ok ?_
  refine rl rfl ?_
  refine dwp_block ?_
  apply lp (a := r) (fun s494 : Int => ⟨25, [(0, .p (.slice 1 (x0.map strC))), (3, .p (.int .i64 s494))], [], 0⟩) h <;> clear h
  · exact wk [] (free hA _) rfl rfl rfl (.cons rfl (.cons rfl .nil)) .nil
  intro s494 b819 h820
  unfold g_R6_twice_l1 at h820
  refine dwp_seq ?_
  refine rs env_ok ?_
  refine rn 2 rfl ?_
  refine sx rfl (o_len rfl rfl ?_)
  refine rl rfl ?_
  refine cd rfl h820 (fun h823 => ?_) (fun h984 => ?_) <;> clear h820
  · refine dwp_skip ?_
    refine thenD_n ?_
    refine dwp_seq ?_
    refine dwp_block ?_
    refine rs env_ok ?_
    refine rl rfl ?_
    refine dwp_block ?_
    apply lp (a := b819) (fun s903 : Int => ⟨25, [(0, .p (.slice 1 (x0.map strC))), (3, .p (.int .i64 s494)), (4, .p (.int .i64 s903))], [], 0⟩) h823 <;> clear h823
    · exact wk [] (free hA _) rfl rfl rfl (.cons rfl (.cons rfl (.cons rfl .nil))) .nil
    intro s903 b952 h953
    unfold g_R6_twice_l2 at h953
    refine dwp_seq ?_
    refine rs env_ok ?_
    refine rl rfl ?_
    refine cd rfl h953 (fun h956 => ?_) (fun h981 => ?_) <;> clear h953
    · refine dwp_skip ?_
      refine thenD_n ?_
      refine dwp_seq ?_
      refine dwp_block ?_
      refine dwp_seq ?_
      refine rgd env_ok mixed [0, 1, 2, 3, 4, 5, 6, 7, 8] 9 (by kernel_rfl) rfl rfl rfl ?_
      refine rnD 2 rfl ?_
      obtain ⟨y971, ey971, h972⟩ := bd h956; clear h956
      refine sxD rfl (opD_plain rfl (o_idx ey971 rfl rfl rfl ?_))
      refine rnD 3 rfl ?_
      obtain ⟨y973, ey973, h974⟩ := bd h972; clear h972
      refine sxD rfl (opD_plain rfl (o_idx ey973 rfl rfl rfl ?_))
      refine rlD rfl ?_
      refine thenD_n ?_
      refine cd rfl h974 (fun h975 => ?_) (fun h980 => ?_) <;> clear h974
      · refine rs env_ok ?_
        refine rl rfl ?_
        refine dwp_ret ?_
        refine inB_r ?_
        refine thenD_r ?_
        obtain ⟨a976, h977, rfl⟩ := mps h975; clear h975
        refine lpt ?_
        refine inB_r ?_
        refine inB_r ?_
        refine thenD_r ?_
        obtain ⟨a978, h979, rfl⟩ := mps h977; clear h977
        refine lpt ?_
        refine inB_r ?_
        refine thenD_r ?_
        have hr := Option.some.inj h979; subst hr
        exact er rfl Le.rfl
      · refine dwp_skip ?_
        refine inB_n ?_
        refine thenD_n ?_
        refine rg env_ok ?_
        refine rl rfl ?_
        have hr := Option.some.inj h980; subst hr
        exact lpn (wk [] (free hA _) rfl rfl rfl (.cons rfl (.cons rfl (.cons rfl .nil))) .nil)
    · refine dwp_exit ?_
      refine thenD_x ?_
      obtain ⟨a982, h983, rfl⟩ := mps h981; clear h981
      refine lpx ?_
      refine inB_x ?_
      refine inB_n ?_
      refine thenD_n ?_
      refine rg env_ok ?_
      refine rl rfl ?_
      have hr := Option.some.inj h983; subst hr
      exact lpn (wk [] (free hA _) rfl rfl rfl (.cons rfl (.cons rfl .nil)) .nil)
  · refine dwp_exit ?_
    refine thenD_x ?_
    obtain ⟨a985, h986, rfl⟩ := mps h984; clear h984
    refine lpx ?_
    refine inB_x ?_
    refine thenD_n ?_
    refine rs env_ok ?_
    refine rl rfl ?_
    refine dwp_ret ?_
    have hr := Option.some.inj h986; subst hr
    exact er rfl Le.rfl

noncomputable def g_R6_has (x0 : Plan) (x1 : Port) : Option Bool :=
  ((bif decide (0 ≤ x1.elem) then bif decide (x1.elem < (x0.elems.length : Int)) then bif decide (0 ≤ x1.fin) then (idx x0.elems x1.elem).bind fun y16 => (g_R6_Ends y16.kind).bind fun y18 => some (decide (x1.fin < y18)) else some false else some false else some false : Option (Bool))).bind fun (t11 : Bool) => some t11

theorem f_R6_has (x0 : Plan) (x1 : Port) (r : Bool) (h : g_R6_has x0 x1 = some r) : Fun Try.prog 99 [.agg (planC x0), .agg (portC x1)] (· = .bool r) := by
  refine fn env_ok Try.func99 rfl rfl 34 rfl [.tmp 4] rfl [(0, .p (.agg (planC x0))), (1, .p (.agg (portC x1)))] rfl rfl fun A hA => ?_
  unfold g_R6_has at h
  refine rs env_ok ?_
  refine rl rfl ?_
  refine jb (fun t11 : Bool => ⟨34, [(4, .p (.bool t11))], [], 0⟩) h (fun t11 h12 => ?_) (fun t11 h23 => ?_) <;> clear h
  · refine rgd env_ok mixed [0, 1, 2, 3, 4, 5, 6, 7, 8, 9, 10, 11, 12, 13, 14, 15, 16, 17, 18, 19, 20, 21, 22, 23, 24, 25, 26, 27, 28, 29] 30 (by kernel_rfl) rfl rfl rfl ?_
    refine rnD 4 rfl ?_
    refine gsD 8 h12 rfl rfl rfl (fun h13 => ?_) (fun h22 => ?_) <;> clear h12
    · refine rnD 4 rfl ?_
      refine sxD rfl (o_lenD rfl rfl ?_)
      refine rnD 3 rfl ?_
      refine gsD 16 h13 rfl rfl rfl (fun h14 => ?_) (fun h21 => ?_) <;> clear h13
      · refine rnD 5 rfl ?_
        refine gsD 21 h14 rfl rfl rfl (fun h15 => ?_) (fun h20 => ?_) <;> clear h14
        · refine rnD 6 rfl ?_
          obtain ⟨y16, ey16, h17⟩ := bd h15; clear h15
          refine sxD rfl (opD_plain rfl (o_idx ey16 rfl rfl rfl ?_))
          refine rnD 2 rfl ?_
          obtain ⟨y18, ey18, h19⟩ := bd h17; clear h17
          refine sxD rfl (o_callD (f_R6_Ends _ _ ey18) (.inl rfl) rfl rfl rfl ?_)
          refine rlD rfl ?_
          have hr := Option.some.inj h19; subst hr
          exact npn (wk [] (free hA _) rfl rfl rfl (.cons rfl .nil) .nil)
        · refine rlD rfl ?_
          have hr := Option.some.inj h20; subst hr
          exact npn (wk [] (free hA _) rfl rfl rfl (.cons rfl .nil) .nil)
      · refine rlD rfl ?_
        have hr := Option.some.inj h21; subst hr
        exact npn (wk [] (free hA _) rfl rfl rfl (.cons rfl .nil) .nil)
    · refine rlD rfl ?_
      have hr := Option.some.inj h22; subst hr
      exact npn (wk [] (free hA _) rfl rfl rfl (.cons rfl .nil) .nil)
  · refine dwp_ret ?_
    have hr := Option.some.inj h23; subst hr
    exact er rfl Le.rfl

noncomputable def g_R6_Next_l1 (x0 : Plan) (x1 : Port) (s202 : Int) : Option (Int ⊕ (Port × Bool)) :=
  bif decide (s202 < (x0.joins.length : Int)) then (idx x0.joins s202).bind fun y378 => bif (y378.a == x1) then (idx x0.joins s202).bind fun y383 => some (.inr (y383.b, true)) else (idx x0.joins s202).bind fun y390 => bif (y390.b == x1) then (idx x0.joins s202).bind fun y395 => some (.inr (y395.a, true)) else some (.inl (wi64 (s202 + 1))) else some (.inr ((⟨0, 0⟩ : Port), false))

noncomputable def g_R6_Next (x0 : Plan) (x1 : Port) : Option (Port × Bool) :=
  loopR (g_R6_Next_l1 x0 x1) 0

theorem f_R6_Next (x0 : Plan) (x1 : Port) (r : (Port × Bool)) (h : g_R6_Next x0 x1 = some r) : Fun Try.prog 69 [.agg (planC x0), .agg (portC x1)] (· = .tup [.agg (portC r.1), .bool r.2]) := by
  refine fn env_ok Try.func69 rfl rfl 43 rfl [.cell 4 65, .tmp 5] rfl [(0, .p (.agg (planC x0))), (1, .p (.agg (portC x1)))] rfl rfl fun A hA => ?_
  unfold g_R6_Next at h
  refine rs env_ok ?_
  refine rl rfl ?_
  refine dwp_seq ?_
  refine rs env_ok ?_
  refine rl rfl ?_
  refine dwp_block ?_
  apply lp (a := r) (fun s202 : Int => ⟨43, [(2, .lpb 0 0), (3, .lpb 1 0), (4, .lpb 2 0), (6, .p (.int .i64 s202))], [(0, .box [.p (.slice 3 (x0.elems.map elemC)), .p (.slice 4 (x0.joins.map joinC)), .p (.slice 4 (x0.signals.map signalC)), .p (.slice 2 (x0.lines.map lineC)), .p (.int .i64 x0.top), .p (.int .i64 x0.brake), .p (.int .i64 x0.margin), .p (.int .i64 x0.throw), .p (.bool x0.hard)]), (1, .box [.p (.int .i64 x1.elem), .p (.int .i64 x1.fin)]), (2, .box [.p (.int .i64 0), .p (.int .i64 0)])], 3⟩) h <;> clear h
  · exact wk [(0, 0), (1, 1), (2, 2)] (free hA _) rfl rfl rfl (.cons rfl (.cons rfl (.cons rfl (.cons rfl .nil)))) (.cons rfl rfl (.cons rfl rfl (.cons rfl rfl .nil)))
  intro s202 b331 h332
  unfold g_R6_Next_l1 at h332
  refine dwp_seq ?_
  refine rs env_ok ?_
  refine rn 3 rfl ?_
  refine sx rfl (o_len rfl rfl ?_)
  refine rl rfl ?_
  refine cd rfl h332 (fun h335 => ?_) (fun h400 => ?_) <;> clear h332
  · refine dwp_skip ?_
    refine thenD_n ?_
    refine dwp_seq ?_
    refine dwp_block ?_
    refine dwp_seq ?_
    refine dwp_seq ?_
    refine rgd env_ok mixed [0, 1, 2, 3, 4, 5, 6, 7] 8 (by kernel_rfl) rfl rfl rfl ?_
    refine rnD 3 rfl ?_
    obtain ⟨y378, ey378, h379⟩ := bd h335; clear h335
    refine sxD rfl (opD_plain rfl (o_idx ey378 rfl rfl rfl ?_))
    refine rnD 3 rfl ?_
    refine sxD rfl (o_eqAD (eqE_Port y378.a x1) rfl rfl rfl rfl rfl ?_)
    refine rlD rfl ?_
    refine thenD_n ?_
    refine cd rfl h379 (fun h380 => ?_) (fun h387 => ?_) <;> clear h379
    · refine rs env_ok ?_
      refine rn 3 rfl ?_
      obtain ⟨y383, ey383, h384⟩ := bd h380; clear h380
      refine sx rfl (o_idx ey383 rfl rfl rfl ?_)
      refine rl rfl ?_
      refine dwp_ret ?_
      refine thenD_r ?_
      refine inB_r ?_
      refine thenD_r ?_
      obtain ⟨a385, h386, rfl⟩ := mps h384; clear h384
      refine lpt ?_
      refine inB_r ?_
      refine thenD_r ?_
      have hr := Option.some.inj h386; subst hr
      exact er rfl Le.rfl
    · refine dwp_skip ?_
      refine thenD_n ?_
      refine dwp_seq ?_
      refine rgd env_ok mixed [0, 1, 2, 3, 4, 5, 6, 7] 8 (by kernel_rfl) rfl rfl rfl ?_
      refine rnD 3 rfl ?_
      obtain ⟨y390, ey390, h391⟩ := bd h387; clear h387
      refine sxD rfl (opD_plain rfl (o_idx ey390 rfl rfl rfl ?_))
      refine rnD 3 rfl ?_
      refine sxD rfl (o_eqAD (eqE_Port y390.b x1) rfl rfl rfl rfl rfl ?_)
      refine rlD rfl ?_
      refine thenD_n ?_
      refine cd rfl h391 (fun h392 => ?_) (fun h399 => ?_) <;> clear h391
      · refine rs env_ok ?_
        refine rn 3 rfl ?_
        obtain ⟨y395, ey395, h396⟩ := bd h392; clear h392
        refine sx rfl (o_idx ey395 rfl rfl rfl ?_)
        refine rl rfl ?_
        refine dwp_ret ?_
        refine inB_r ?_
        refine thenD_r ?_
        obtain ⟨a397, h398, rfl⟩ := mps h396; clear h396
        refine lpt ?_
        refine inB_r ?_
        refine thenD_r ?_
        have hr := Option.some.inj h398; subst hr
        exact er rfl Le.rfl
      · refine dwp_skip ?_
        refine inB_n ?_
        refine thenD_n ?_
        refine rg env_ok ?_
        refine rl rfl ?_
        have hr := Option.some.inj h399; subst hr
        exact lpn (wk [(0, 0), (1, 1), (2, 2)] (free hA _) rfl rfl rfl (.cons rfl (.cons rfl (.cons rfl (.cons rfl .nil)))) (.cons rfl rfl (.cons rfl rfl (.cons rfl rfl .nil))))
  · refine dwp_exit ?_
    refine thenD_x ?_
    obtain ⟨a401, h402, rfl⟩ := mps h400; clear h400
    refine lpx ?_
    refine inB_x ?_
    refine thenD_n ?_
    refine rs env_ok ?_
    refine rl rfl ?_
    refine dwp_ret ?_
    have hr := Option.some.inj h402; subst hr
    exact er rfl Le.rfl

noncomputable def g_R6_kind (x0 : Plan) (x1 : Int) : Option Int :=
  ((bif decide (x1 < 0) then some true else some (decide ((x0.elems.length : Int) ≤ x1)) : Option (Bool))).bind fun (t12 : Bool) => bif t12 then some 0 else (idx x0.elems x1).bind fun y21 => some y21.kind

theorem f_R6_kind (x0 : Plan) (x1 : Int) (r : Int) (h : g_R6_kind x0 x1 = some r) : Fun Try.prog 91 [.agg (planC x0), .int .i64 x1] (· = .int .i64 r) := by
  refine fn env_ok Try.func91 rfl rfl 20 rfl [.tmp 4] rfl [(0, .p (.agg (planC x0))), (1, .p (.int .i64 x1))] rfl rfl fun A hA => ?_
  unfold g_R6_kind at h
  refine rs env_ok ?_
  refine rl rfl ?_
  refine dwp_seq ?_
  refine jb (fun t12 : Bool => ⟨20, [(1, .p (.int .i64 x1)), (2, .lpb 0 0), (13, .p (.bool t12))], [(0, .box [.p (.slice 3 (x0.elems.map elemC)), .p (.slice 4 (x0.joins.map joinC)), .p (.slice 4 (x0.signals.map signalC)), .p (.slice 2 (x0.lines.map lineC)), .p (.int .i64 x0.top), .p (.int .i64 x0.brake), .p (.int .i64 x0.margin), .p (.int .i64 x0.throw), .p (.bool x0.hard)])], 1⟩) h (fun t12 h13 => ?_) (fun t12 h16 => ?_) <;> clear h
  · refine rg env_ok ?_
    refine rn 3 rfl ?_
    refine gs 7 h13 rfl rfl rfl (fun h14 => ?_) (fun h15 => ?_) <;> clear h13
    · refine rl rfl ?_
      have hr := Option.some.inj h14; subst hr
      exact npn (wk [(0, 0)] (free hA _) rfl rfl rfl (.cons rfl (.cons rfl (.cons rfl .nil))) (.cons rfl rfl .nil))
    · refine rn 3 rfl ?_
      refine sx rfl (o_len rfl rfl ?_)
      refine rl rfl ?_
      have hr := Option.some.inj h15; subst hr
      exact npn (wk [(0, 0)] (free hA _) rfl rfl rfl (.cons rfl (.cons rfl (.cons rfl .nil))) (.cons rfl rfl .nil))
  · refine cd rfl h16 (fun h17 => ?_) (fun h18 => ?_) <;> clear h16
    · refine rs env_ok ?_
      refine rl rfl ?_
      refine dwp_ret ?_
      refine thenD_r ?_
      have hr := Option.some.inj h17; subst hr
      exact er rfl Le.rfl
    · refine dwp_skip ?_
      refine thenD_n ?_
      refine rs env_ok ?_
      refine rn 3 rfl ?_
      obtain ⟨y21, ey21, h22⟩ := bd h18; clear h18
      refine sx rfl (o_idx ey21 rfl rfl rfl ?_)
      refine rl rfl ?_
      refine dwp_ret ?_
      have hr := Option.some.inj h22; subst hr
      exact er rfl Le.rfl

noncomputable def g_R6_joined_l3 (s70 : (Int × (List Port))) (s754 : Int) (s1285 : Int) : Option (Int ⊕ (Int ⊕ Bool)) :=
  bif decide (s1285 < s754) then (idx s70.2 s1285).bind fun y1353 => (idx s70.2 s754).bind fun y1355 => bif (y1353 == y1355) then some (.inr (.inr false)) else some (.inl (wi64 (s1285 + 1))) else some (.inr (.inl (wi64 (s754 + 1))))

noncomputable def g_R6_joined_l4 (x0 : Plan) (s1544 : Int) : Option (Int ⊕ Bool) :=
  bif decide (s1544 < (x0.elems.length : Int)) then seqR (((idx x0.elems s1544).bind fun y1690 => bif (y1690.kind == 4) then (g_R6_Next x0 (⟨s1544, 0⟩ : Port)).bind fun y1695 => ((bif (!y1695.2) then some true else (g_R6_kind x0 y1695.1.elem).bind fun y1705 => some (y1705 == 4) : Option (Bool))).bind fun (t1701 : Bool) => bif t1701 then some (.inr (.inr false)) else some (.inl ()) else some (.inl ()) : Option (Unit ⊕ (Int ⊕ Bool)))) fun (t1685 : Unit) => some (.inl (wi64 (s1544 + 1))) else some (.inr true)

noncomputable def g_R6_joined_l2 (x0 : Plan) (s70 : (Int × (List Port))) (s754 : Int) : Option (Int ⊕ Bool) :=
  bif decide (s754 < (s70.2.length : Int)) then (idx s70.2 s754).bind fun y1277 => (g_R6_has x0 y1277).bind fun y1279 => bif (!y1279) then some (.inr false) else loopR (g_R6_joined_l3 s70 s754) 0 else (loopR (g_R6_joined_l4 x0) 0).map .inr

noncomputable def g_R6_joined_l1 (x0 : Plan) (s70 : Int × (List Port)) : Option ((Int × (List Port)) ⊕ Bool) :=
  bif decide (s70.1 < (x0.joins.length : Int)) then (idx x0.joins s70.1).bind fun y130 => (idx x0.joins s70.1).bind fun y132 => (appI s70.2 [y130.a, y132.b]).bind fun y134 => some (.inl (wi64 (s70.1 + 1), y134)) else (loopR (g_R6_joined_l2 x0 s70) 0).map .inr

noncomputable def g_R6_joined (x0 : Plan) : Option Bool :=
  loopR (g_R6_joined_l1 x0) (0, ([] : List Port))

theorem f_R6_joined (x0 : Plan) (r : Bool) (h : g_R6_joined x0 = some r) : Fun Try.prog 79 [.agg (planC x0)] (· = .bool r) := by
  refine fn env_ok Try.func79 rfl rfl 89 rfl [.tmp 2] rfl [(0, .p (.agg (planC x0)))] rfl rfl fun A hA => ?_
  unfold g_R6_joined at h
  refine rs env_ok ?_
  refine rl rfl ?_
  refine rs env_ok ?_
  refine rl rfl ?_
  refine dwp_seq ?_
  refine rs env_ok ?_
  refine rl rfl ?_
  refine dwp_block ?_
  apply lp (a := r) (fun s70 : (Int × (List Port)) => ⟨89, [(1, .lpb 0 0), (3, .lsl 1 2 0 s70.2.length), (4, .p (.int .i64 s70.1))], [(0, .box [.p (.slice 3 (x0.elems.map elemC)), .p (.slice 4 (x0.joins.map joinC)), .p (.slice 4 (x0.signals.map signalC)), .p (.slice 2 (x0.lines.map lineC)), .p (.int .i64 x0.top), .p (.int .i64 x0.brake), .p (.int .i64 x0.margin), .p (.int .i64 x0.throw), .p (.bool x0.hard)]), (1, .row 65 2 (s70.2.map portC))], 2⟩) h <;> clear h
  · exact Weak.trans (weak_ghost 3 65 2 rfl) (wk [(0, 0), (1, 1)] (free hA _) rfl rfl rfl (.cons rfl (.cons rfl (.cons rfl .nil))) (.cons rfl rfl (.cons rfl rfl .nil)))
  intro s70 b119 h120
  unfold g_R6_joined_l1 at h120
  refine dwp_seq ?_
  refine rs env_ok ?_
  refine rn 3 rfl ?_
  refine sx rfl (o_len rfl rfl ?_)
  refine rl rfl ?_
  refine cd rfl h120 (fun h123 => ?_) (fun h136 => ?_) <;> clear h120
  · refine dwp_skip ?_
    refine thenD_n ?_
    refine dwp_seq ?_
    refine dwp_block ?_
    refine rgd env_ok mixed [0, 1, 2, 3, 4, 5, 6, 7, 8, 9, 10, 11, 12, 13, 14, 15] 16 (by kernel_rfl) rfl rfl rfl ?_
    refine rnD 4 rfl ?_
    obtain ⟨y130, ey130, h131⟩ := bd h123; clear h123
    refine sxD rfl (opD_plain rfl (o_idx ey130 rfl rfl rfl ?_))
    refine rnD 5 rfl ?_
    obtain ⟨y132, ey132, h133⟩ := bd h131; clear h131
    refine sxD rfl (opD_plain rfl (o_idx ey132 rfl rfl rfl ?_))
    refine rnD 3 rfl ?_
    obtain ⟨y134, ey134, h135⟩ := bd h133; clear h133
    refine sxD rfl (opD_app (o_app1 (enc := portC) (l := s70.2) (m := [y130.a, y132.b]) ey134 (fun _ => ⟨rfl, rfl⟩) rfl rfl rfl rfl rfl rfl ?_))
    refine rlD rfl ?_
    refine inB_n ?_
    refine thenD_n ?_
    refine rg env_ok ?_
    refine rl rfl ?_
    have hr := Option.some.inj h135; subst hr
    exact lpn (wk [(0, 0), (1, 16)] (free hA _) rfl rfl rfl (.cons rfl (.cons rfl (.cons rfl .nil))) (.cons rfl rfl (.cons rfl rfl .nil)))
  · refine dwp_exit ?_
    refine thenD_x ?_
    obtain ⟨a137, h138, rfl⟩ := mp h136; clear h136
    refine lpx ?_
    refine inB_x ?_
    refine thenD_n ?_
    refine dwp_seq ?_
    refine rs env_ok ?_
    refine rl rfl ?_
    refine dwp_block ?_
    apply lp (a := a137) (fun s754 : Int => ⟨89, [(1, .lpb 0 0), (3, .lsl 1 2 0 s70.2.length), (5, .p (.int .i64 s754))], [(0, .box [.p (.slice 3 (x0.elems.map elemC)), .p (.slice 4 (x0.joins.map joinC)), .p (.slice 4 (x0.signals.map signalC)), .p (.slice 2 (x0.lines.map lineC)), .p (.int .i64 x0.top), .p (.int .i64 x0.brake), .p (.int .i64 x0.margin), .p (.int .i64 x0.throw), .p (.bool x0.hard)]), (1, .row 65 2 (s70.2.map portC))], 2⟩) h138 <;> clear h138
    · exact wk [(0, 0), (1, 1)] (free hA _) rfl rfl rfl (.cons rfl (.cons rfl (.cons rfl .nil))) (.cons rfl rfl (.cons rfl rfl .nil))
    intro s754 b1159 h1160
    unfold g_R6_joined_l2 at h1160
    refine dwp_seq ?_
    refine rs env_ok ?_
    refine rl rfl ?_
    refine cd rfl h1160 (fun h1163 => ?_) (fun h1366 => ?_) <;> clear h1160
    · refine dwp_skip ?_
      refine thenD_n ?_
      refine dwp_seq ?_
      refine dwp_block ?_
      refine dwp_seq ?_
      refine dwp_seq ?_
      refine rgd env_ok mixed [0, 1, 2, 3, 4, 5, 6] 7 (by kernel_rfl) rfl rfl rfl ?_
      refine rnD 3 rfl ?_
      obtain ⟨y1277, ey1277, h1278⟩ := bd h1163; clear h1163
      refine sxD rfl (opD_plain rfl (o_idxO ey1277 rfl rfl rfl rfl ?_))
      refine sxD rfl (opD_ld rfl (o_ldO ey1277 rfl rfl rfl ?_))
      obtain ⟨y1279, ey1279, h1280⟩ := bd h1278; clear h1278
      refine sxD rfl (o_callD (f_R6_has _ _ _ ey1279) (.inl rfl) rfl rfl rfl ?_)
      refine rlD rfl ?_
      refine thenD_n ?_
      refine cd rfl h1280 (fun h1281 => ?_) (fun h1284 => ?_) <;> clear h1280
      · refine rs env_ok ?_
        refine rl rfl ?_
        refine dwp_ret ?_
        refine thenD_r ?_
        refine inB_r ?_
        refine thenD_r ?_
        obtain ⟨a1282, h1283, rfl⟩ := mps h1281; clear h1281
        refine lpt ?_
        refine inB_r ?_
        refine thenD_r ?_
        have hr := Option.some.inj h1283; subst hr
        exact er rfl Le.rfl
      · refine dwp_skip ?_
        refine thenD_n ?_
        refine rs env_ok ?_
        refine rl rfl ?_
        refine dwp_block ?_
        apply lp (a := b1159) (fun s1285 : Int => ⟨89, [(1, .lpb 0 0), (3, .lsl 1 2 0 s70.2.length), (5, .p (.int .i64 s754)), (6, .p (.int .i64 s1285))], [(0, .box [.p (.slice 3 (x0.elems.map elemC)), .p (.slice 4 (x0.joins.map joinC)), .p (.slice 4 (x0.signals.map signalC)), .p (.slice 2 (x0.lines.map lineC)), .p (.int .i64 x0.top), .p (.int .i64 x0.brake), .p (.int .i64 x0.margin), .p (.int .i64 x0.throw), .p (.bool x0.hard)]), (1, .row 65 2 (s70.2.map portC))], 2⟩) h1284 <;> clear h1284
        · exact wk [(0, 0), (1, 1)] (free hA _) rfl rfl rfl (.cons rfl (.cons rfl (.cons rfl (.cons rfl .nil)))) (.cons rfl rfl (.cons rfl rfl .nil))
        intro s1285 b1334 h1335
        unfold g_R6_joined_l3 at h1335
        refine dwp_seq ?_
        refine rs env_ok ?_
        refine rl rfl ?_
        refine cd rfl h1335 (fun h1338 => ?_) (fun h1363 => ?_) <;> clear h1335
        · refine dwp_skip ?_
          refine thenD_n ?_
          refine dwp_seq ?_
          refine dwp_block ?_
          refine dwp_seq ?_
          refine rgd env_ok mixed [0, 1, 2, 3, 4, 5, 6, 7, 8] 9 (by kernel_rfl) rfl rfl rfl ?_
          refine rnD 2 rfl ?_
          obtain ⟨y1353, ey1353, h1354⟩ := bd h1338; clear h1338
          refine sxD rfl (opD_plain rfl (o_idxO ey1353 rfl rfl rfl rfl ?_))
          refine sxD rfl (opD_ld rfl (o_ldO ey1353 rfl rfl rfl ?_))
          refine rnD 2 rfl ?_
          obtain ⟨y1355, ey1355, h1356⟩ := bd h1354; clear h1354
          refine sxD rfl (opD_plain rfl (o_idxO ey1355 rfl rfl rfl rfl ?_))
          refine sxD rfl (opD_ld rfl (o_ldO ey1355 rfl rfl rfl ?_))
          refine sxD rfl (o_eqAD (eqE_Port y1353 y1355) rfl rfl rfl rfl rfl ?_)
          refine rlD rfl ?_
          refine thenD_n ?_
          refine cd rfl h1356 (fun h1357 => ?_) (fun h1362 => ?_) <;> clear h1356
          · refine rs env_ok ?_
            refine rl rfl ?_
            refine dwp_ret ?_
            refine inB_r ?_
            refine thenD_r ?_
            obtain ⟨a1358, h1359, rfl⟩ := mps h1357; clear h1357
            refine lpt ?_
            refine inB_r ?_
            refine inB_r ?_
            refine thenD_r ?_
            obtain ⟨a1360, h1361, rfl⟩ := mps h1359; clear h1359
            refine lpt ?_
            refine inB_r ?_
            refine thenD_r ?_
            have hr := Option.some.inj h1361; subst hr
            exact er rfl Le.rfl
          · refine dwp_skip ?_
            refine inB_n ?_
            refine thenD_n ?_
            refine rg env_ok ?_
            refine rl rfl ?_
            have hr := Option.some.inj h1362; subst hr
            exact lpn (wk [(0, 0), (1, 1)] (free hA _) rfl rfl rfl (.cons rfl (.cons rfl (.cons rfl (.cons rfl .nil)))) (.cons rfl rfl (.cons rfl rfl .nil)))
        · refine dwp_exit ?_
          refine thenD_x ?_
          obtain ⟨a1364, h1365, rfl⟩ := mps h1363; clear h1363
          refine lpx ?_
          refine inB_x ?_
          refine inB_n ?_
          refine thenD_n ?_
          refine rg env_ok ?_
          refine rl rfl ?_
          have hr := Option.some.inj h1365; subst hr
          exact lpn (wk [(0, 0), (1, 1)] (free hA _) rfl rfl rfl (.cons rfl (.cons rfl (.cons rfl .nil))) (.cons rfl rfl (.cons rfl rfl .nil)))
    · refine dwp_exit ?_
      refine thenD_x ?_
      obtain ⟨a1367, h1368, rfl⟩ := mp h1366; clear h1366
      refine lpx ?_
      refine inB_x ?_
      refine thenD_n ?_
      refine dwp_seq ?_
      refine rs env_ok ?_
      refine rl rfl ?_
      refine dwp_block ?_
      apply lp (a := a1367) (fun s1544 : Int => ⟨89, [(1, .lpb 0 0), (7, .p (.int .i64 s1544))], [(0, .box [.p (.slice 3 (x0.elems.map elemC)), .p (.slice 4 (x0.joins.map joinC)), .p (.slice 4 (x0.signals.map signalC)), .p (.slice 2 (x0.lines.map lineC)), .p (.int .i64 x0.top), .p (.int .i64 x0.brake), .p (.int .i64 x0.margin), .p (.int .i64 x0.throw), .p (.bool x0.hard)])], 1⟩) h1368 <;> clear h1368
      · exact wk [(0, 0)] (free hA _) rfl rfl rfl (.cons rfl (.cons rfl .nil)) (.cons rfl rfl .nil)
      intro s1544 b1657 h1658
      unfold g_R6_joined_l4 at h1658
      refine dwp_seq ?_
      refine rs env_ok ?_
      refine rn 3 rfl ?_
      refine sx rfl (o_len rfl rfl ?_)
      refine rl rfl ?_
      refine cd rfl h1658 (fun h1661 => ?_) (fun h1716 => ?_) <;> clear h1658
      · refine dwp_skip ?_
        refine thenD_n ?_
        apply jn (a := b1657) (fun t1685 : Unit => ⟨89, [(1, .lpb 0 0), (7, .p (.int .i64 s1544))], [(0, .box [.p (.slice 3 (x0.elems.map elemC)), .p (.slice 4 (x0.joins.map joinC)), .p (.slice 4 (x0.signals.map signalC)), .p (.slice 2 (x0.lines.map lineC)), .p (.int .i64 x0.top), .p (.int .i64 x0.brake), .p (.int .i64 x0.margin), .p (.int .i64 x0.throw), .p (.bool x0.hard)])], 1⟩) h1661 <;> clear h1661
        · intro b1686 h1687
          refine dwp_block ?_
          refine rs env_ok ?_
          refine rn 3 rfl ?_
          obtain ⟨y1690, ey1690, h1691⟩ := bd h1687; clear h1687
          refine sx rfl (o_idx ey1690 rfl rfl rfl ?_)
          refine rl rfl ?_
          refine cd rfl h1691 (fun h1692 => ?_) (fun h1714 => ?_) <;> clear h1691
          · refine rs env_ok ?_
            refine rn 3 rfl ?_
            obtain ⟨y1695, ey1695, h1696⟩ := bd h1692; clear h1692
            refine sx rfl (o_call (f_R6_Next _ _ _ ey1695) (.inl rfl) rfl rfl rfl ?_)
            refine rl rfl ?_
            refine jb (fun t1701 : Bool => ⟨89, [(1, .lpb 0 0), (7, .p (.int .i64 s1544)), (88, .p (.bool t1701))], [(0, .box [.p (.slice 3 (x0.elems.map elemC)), .p (.slice 4 (x0.joins.map joinC)), .p (.slice 4 (x0.signals.map signalC)), .p (.slice 2 (x0.lines.map lineC)), .p (.int .i64 x0.top), .p (.int .i64 x0.brake), .p (.int .i64 x0.margin), .p (.int .i64 x0.throw), .p (.bool x0.hard)])], 1⟩) h1696 (fun t1701 h1702 => ?_) (fun t1701 h1707 => ?_) <;> clear h1696
            · refine rg env_ok ?_
              refine rn 3 rfl ?_
              refine gs 82 h1702 rfl rfl rfl (fun h1703 => ?_) (fun h1704 => ?_) <;> clear h1702
              · refine rl rfl ?_
                have hr := Option.some.inj h1703; subst hr
                exact npn (wk [(0, 0)] (free hA _) rfl rfl rfl (.cons rfl (.cons rfl (.cons rfl .nil))) (.cons rfl rfl .nil))
              · refine rn 3 rfl ?_
                obtain ⟨y1705, ey1705, h1706⟩ := bd h1704; clear h1704
                refine sx rfl (o_call (f_R6_kind _ _ _ ey1705) (.inl rfl) rfl rfl rfl ?_)
                refine rl rfl ?_
                have hr := Option.some.inj h1706; subst hr
                exact npn (wk [(0, 0)] (free hA _) rfl rfl rfl (.cons rfl (.cons rfl (.cons rfl .nil))) (.cons rfl rfl .nil))
            · refine cd rfl h1707 (fun h1708 => ?_) (fun h1713 => ?_) <;> clear h1707
              · refine rs env_ok ?_
                refine rl rfl ?_
                refine dwp_ret ?_
                refine inB_r ?_
                obtain ⟨a1709, h1710, rfl⟩ := mps h1708; clear h1708
                refine lpt ?_
                obtain ⟨a1711, h1712, rfl⟩ := mps h1710; clear h1710
                refine lpt ?_
                refine inB_r ?_
                refine thenD_r ?_
                have hr := Option.some.inj h1712; subst hr
                exact er rfl Le.rfl
              · refine dwp_skip ?_
                refine inB_n ?_
                have hr := Option.some.inj h1713; subst hr
                exact lpn (wk [(0, 0)] (free hA _) rfl rfl rfl (.cons rfl (.cons rfl .nil)) (.cons rfl rfl .nil))
          · refine dwp_skip ?_
            refine inB_n ?_
            have hr := Option.some.inj h1714; subst hr
            exact lpn (wk [(0, 0)] (free hA _) rfl rfl rfl (.cons rfl (.cons rfl .nil)) (.cons rfl rfl .nil))
        · intro t1685 h1715
          refine rg env_ok ?_
          refine rl rfl ?_
          have hr := Option.some.inj h1715; subst hr
          exact lpn (wk [(0, 0)] (free hA _) rfl rfl rfl (.cons rfl (.cons rfl .nil)) (.cons rfl rfl .nil))
      · refine dwp_exit ?_
        refine thenD_x ?_
        obtain ⟨a1717, h1718, rfl⟩ := mps h1716; clear h1716
        refine lpx ?_
        refine inB_x ?_
        refine thenD_n ?_
        refine rs env_ok ?_
        refine rl rfl ?_
        refine dwp_ret ?_
        have hr := Option.some.inj h1718; subst hr
        exact er rfl Le.rfl

noncomputable def g_R6_Reads_l1 (x0 : Plan) (x1 : Port) (s56 : Int) : Option (Int ⊕ Int) :=
  bif decide (s56 < (x0.signals.length : Int)) then (idx x0.signals s56).bind fun y102 => bif (y102.at_ == x1) then some (.inr s56) else some (.inl (wi64 (s56 + 1))) else some (.inr (-1))

noncomputable def g_R6_Reads (x0 : Plan) (x1 : Port) : Option Int :=
  loopR (g_R6_Reads_l1 x0 x1) 0

theorem f_R6_Reads (x0 : Plan) (x1 : Port) (r : Int) (h : g_R6_Reads x0 x1 = some r) : Fun Try.prog 96 [.agg (planC x0), .agg (portC x1)] (· = .int .i64 r) := by
  refine fn env_ok Try.func96 rfl rfl 22 rfl [.tmp 4] rfl [(0, .p (.agg (planC x0))), (1, .p (.agg (portC x1)))] rfl rfl fun A hA => ?_
  unfold g_R6_Reads at h
  refine rs env_ok ?_
  refine rl rfl ?_
  refine dwp_seq ?_
  refine rs env_ok ?_
  refine rl rfl ?_
  refine dwp_block ?_
  apply lp (a := r) (fun s56 : Int => ⟨22, [(2, .lpb 0 0), (3, .lpb 1 0), (5, .p (.int .i64 s56))], [(0, .box [.p (.slice 3 (x0.elems.map elemC)), .p (.slice 4 (x0.joins.map joinC)), .p (.slice 4 (x0.signals.map signalC)), .p (.slice 2 (x0.lines.map lineC)), .p (.int .i64 x0.top), .p (.int .i64 x0.brake), .p (.int .i64 x0.margin), .p (.int .i64 x0.throw), .p (.bool x0.hard)]), (1, .box [.p (.int .i64 x1.elem), .p (.int .i64 x1.fin)])], 2⟩) h <;> clear h
  · exact wk [(0, 0), (1, 1)] (free hA _) rfl rfl rfl (.cons rfl (.cons rfl (.cons rfl .nil))) (.cons rfl rfl (.cons rfl rfl .nil))
  intro s56 b89 h90
  unfold g_R6_Reads_l1 at h90
  refine dwp_seq ?_
  refine rs env_ok ?_
  refine rn 3 rfl ?_
  refine sx rfl (o_len rfl rfl ?_)
  refine rl rfl ?_
  refine cd rfl h90 (fun h93 => ?_) (fun h108 => ?_) <;> clear h90
  · refine dwp_skip ?_
    refine thenD_n ?_
    refine dwp_seq ?_
    refine dwp_block ?_
    refine dwp_seq ?_
    refine rgd env_ok mixed [0, 1, 2, 3, 4, 5, 6, 7] 8 (by kernel_rfl) rfl rfl rfl ?_
    refine rnD 3 rfl ?_
    obtain ⟨y102, ey102, h103⟩ := bd h93; clear h93
    refine sxD rfl (opD_plain rfl (o_idx ey102 rfl rfl rfl ?_))
    refine rnD 3 rfl ?_
    refine sxD rfl (o_eqAD (eqE_Port y102.at_ x1) rfl rfl rfl rfl rfl ?_)
    refine rlD rfl ?_
    refine thenD_n ?_
    refine cd rfl h103 (fun h104 => ?_) (fun h107 => ?_) <;> clear h103
    · refine rs env_ok ?_
      refine rl rfl ?_
      refine dwp_ret ?_
      refine inB_r ?_
      refine thenD_r ?_
      obtain ⟨a105, h106, rfl⟩ := mps h104; clear h104
      refine lpt ?_
      refine inB_r ?_
      refine thenD_r ?_
      have hr := Option.some.inj h106; subst hr
      exact er rfl Le.rfl
    · refine dwp_skip ?_
      refine inB_n ?_
      refine thenD_n ?_
      refine rg env_ok ?_
      refine rl rfl ?_
      have hr := Option.some.inj h107; subst hr
      exact lpn (wk [(0, 0), (1, 1)] (free hA _) rfl rfl rfl (.cons rfl (.cons rfl (.cons rfl .nil))) (.cons rfl rfl (.cons rfl rfl .nil)))
  · refine dwp_exit ?_
    refine thenD_x ?_
    obtain ⟨a109, h110, rfl⟩ := mps h108; clear h108
    refine lpx ?_
    refine inB_x ?_
    refine thenD_n ?_
    refine rs env_ok ?_
    refine rl rfl ?_
    refine dwp_ret ?_
    have hr := Option.some.inj h110; subst hr
    exact er rfl Le.rfl

noncomputable def g_R6_signals_l2 (x0 : Plan) (s968 : Int) : Option (Int ⊕ Bool) :=
  bif decide (s968 < (x0.elems.length : Int)) then (((idx x0.elems s968).bind fun y1075 => bif (y1075.kind == 4) then (g_R6_Reads x0 (⟨s968, 0⟩ : Port)).bind fun y1078 => some (decide (y1078 < 0)) else some false : Option (Bool))).bind fun (t1073 : Bool) => bif t1073 then some (.inr false) else some (.inl (wi64 (s968 + 1))) else some (.inr true)

noncomputable def g_R6_signals_l1 (x0 : Plan) (s424 : Int) : Option (Int ⊕ Bool) :=
  bif decide (s424 < (x0.signals.length : Int)) then (idx x0.signals s424).bind fun y775 => (g_R6_kind x0 y775.at_.elem).bind fun y779 => (((g_R6_has x0 y775.at_).bind fun y806 => bif (!y806) then some true else bif (y779 != 1) then some (y779 != 4) else some false : Option (Bool))).bind fun (t804 : Bool) => bif t804 then some (.inr false) else (g_R6_Next x0 y775.at_).bind fun y819 => ((bif (!y819.2) then some true else (g_R6_kind x0 y819.1.elem).bind fun y833 => bif (y833 == 4) then some true else (g_R6_Reads x0 y775.at_).bind fun y837 => some (y837 != s424) : Option (Bool))).bind fun (t829 : Bool) => bif t829 then some (.inr false) else some (.inl (wi64 (s424 + 1))) else (loopR (g_R6_signals_l2 x0) 0).map .inr

noncomputable def g_R6_signals (x0 : Plan) : Option Bool :=
  loopR (g_R6_signals_l1 x0) 0

theorem f_R6_signals (x0 : Plan) (r : Bool) (h : g_R6_signals x0 = some r) : Fun Try.prog 80 [.agg (planC x0)] (· = .bool r) := by
  refine fn env_ok Try.func80 rfl rfl 81 rfl [.tmp 2] rfl [(0, .p (.agg (planC x0)))] rfl rfl fun A hA => ?_
  unfold g_R6_signals at h
  refine rs env_ok ?_
  refine rl rfl ?_
  refine dwp_seq ?_
  refine rs env_ok ?_
  refine rl rfl ?_
  refine dwp_block ?_
  apply lp (a := r) (fun s424 : Int => ⟨81, [(1, .lpb 0 0), (3, .p (.int .i64 s424))], [(0, .box [.p (.slice 3 (x0.elems.map elemC)), .p (.slice 4 (x0.joins.map joinC)), .p (.slice 4 (x0.signals.map signalC)), .p (.slice 2 (x0.lines.map lineC)), .p (.int .i64 x0.top), .p (.int .i64 x0.brake), .p (.int .i64 x0.margin), .p (.int .i64 x0.throw), .p (.bool x0.hard)])], 1⟩) h <;> clear h
  · exact wk [(0, 0)] (free hA _) rfl rfl rfl (.cons rfl (.cons rfl .nil)) (.cons rfl rfl .nil)
  intro s424 b701 h702
  unfold g_R6_signals_l1 at h702
  refine dwp_seq ?_
  refine rs env_ok ?_
  refine rn 3 rfl ?_
  refine sx rfl (o_len rfl rfl ?_)
  refine rl rfl ?_
  refine cd rfl h702 (fun h705 => ?_) (fun h844 => ?_) <;> clear h702
  · refine dwp_skip ?_
    refine thenD_n ?_
    refine dwp_seq ?_
    refine dwp_block ?_
    refine rs env_ok ?_
    refine rn 3 rfl ?_
    obtain ⟨y775, ey775, h776⟩ := bd h705; clear h705
    refine sx rfl (o_idx ey775 rfl rfl rfl ?_)
    refine rl rfl ?_
    refine rs env_ok ?_
    refine rn 3 rfl ?_
    obtain ⟨y779, ey779, h780⟩ := bd h776; clear h776
    refine sx rfl (o_call (f_R6_kind _ _ _ ey779) (.inl rfl) rfl rfl rfl ?_)
    refine rl rfl ?_
    refine dwp_seq ?_
    refine jb (fun t804 : Bool => ⟨81, [(1, .lpb 0 0), (3, .p (.int .i64 s424)), (4, .lpb 1 0), (37, .p (.bool t804))], [(0, .box [.p (.slice 3 (x0.elems.map elemC)), .p (.slice 4 (x0.joins.map joinC)), .p (.slice 4 (x0.signals.map signalC)), .p (.slice 2 (x0.lines.map lineC)), .p (.int .i64 x0.top), .p (.int .i64 x0.brake), .p (.int .i64 x0.margin), .p (.int .i64 x0.throw), .p (.bool x0.hard)]), (1, .box [.p (.int .i64 y775.at_.elem), .p (.int .i64 y775.at_.fin)])], 2⟩) h780 (fun t804 h805 => ?_) (fun t804 h812 => ?_) <;> clear h780
    · refine rg env_ok ?_
      refine rn 2 rfl ?_
      obtain ⟨y806, ey806, h807⟩ := bd h805; clear h805
      refine sx rfl (o_call (f_R6_has _ _ _ ey806) (.inl rfl) rfl rfl rfl ?_)
      refine rn 2 rfl ?_
      refine gs 30 h807 rfl rfl rfl (fun h808 => ?_) (fun h809 => ?_) <;> clear h807
      · refine rl rfl ?_
        have hr := Option.some.inj h808; subst hr
        exact npn (wk [(0, 0), (1, 1)] (free hA _) rfl rfl rfl (.cons rfl (.cons rfl (.cons rfl (.cons rfl .nil)))) (.cons rfl rfl (.cons rfl rfl .nil)))
      · refine rn 3 rfl ?_
        refine gs 33 h809 rfl rfl rfl (fun h810 => ?_) (fun h811 => ?_) <;> clear h809
        · refine rl rfl ?_
          have hr := Option.some.inj h810; subst hr
          exact npn (wk [(0, 0), (1, 1)] (free hA _) rfl rfl rfl (.cons rfl (.cons rfl (.cons rfl (.cons rfl .nil)))) (.cons rfl rfl (.cons rfl rfl .nil)))
        · refine rl rfl ?_
          have hr := Option.some.inj h811; subst hr
          exact npn (wk [(0, 0), (1, 1)] (free hA _) rfl rfl rfl (.cons rfl (.cons rfl (.cons rfl (.cons rfl .nil)))) (.cons rfl rfl (.cons rfl rfl .nil)))
    · refine cd rfl h812 (fun h813 => ?_) (fun h816 => ?_) <;> clear h812
      · refine rs env_ok ?_
        refine rl rfl ?_
        refine dwp_ret ?_
        refine thenD_r ?_
        refine inB_r ?_
        refine thenD_r ?_
        obtain ⟨a814, h815, rfl⟩ := mps h813; clear h813
        refine lpt ?_
        refine inB_r ?_
        refine thenD_r ?_
        have hr := Option.some.inj h815; subst hr
        exact er rfl Le.rfl
      · refine dwp_skip ?_
        refine thenD_n ?_
        refine rs env_ok ?_
        refine rn 2 rfl ?_
        obtain ⟨y819, ey819, h820⟩ := bd h816; clear h816
        refine sx rfl (o_call (f_R6_Next _ _ _ ey819) (.inl rfl) rfl rfl rfl ?_)
        refine rl rfl ?_
        refine jb (fun t829 : Bool => ⟨81, [(1, .lpb 0 0), (3, .p (.int .i64 s424)), (59, .p (.bool t829))], [(0, .box [.p (.slice 3 (x0.elems.map elemC)), .p (.slice 4 (x0.joins.map joinC)), .p (.slice 4 (x0.signals.map signalC)), .p (.slice 2 (x0.lines.map lineC)), .p (.int .i64 x0.top), .p (.int .i64 x0.brake), .p (.int .i64 x0.margin), .p (.int .i64 x0.throw), .p (.bool x0.hard)])], 1⟩) h820 (fun t829 h830 => ?_) (fun t829 h839 => ?_) <;> clear h820
        · refine rg env_ok ?_
          refine rn 3 rfl ?_
          refine gs 46 h830 rfl rfl rfl (fun h831 => ?_) (fun h832 => ?_) <;> clear h830
          · refine rl rfl ?_
            have hr := Option.some.inj h831; subst hr
            exact npn (wk [(0, 0)] (free hA _) rfl rfl rfl (.cons rfl (.cons rfl (.cons rfl .nil))) (.cons rfl rfl .nil))
          · refine rn 3 rfl ?_
            obtain ⟨y833, ey833, h834⟩ := bd h832; clear h832
            refine sx rfl (o_call (f_R6_kind _ _ _ ey833) (.inl rfl) rfl rfl rfl ?_)
            refine rn 3 rfl ?_
            refine gs 53 h834 rfl rfl rfl (fun h835 => ?_) (fun h836 => ?_) <;> clear h834
            · refine rl rfl ?_
              have hr := Option.some.inj h835; subst hr
              exact npn (wk [(0, 0)] (free hA _) rfl rfl rfl (.cons rfl (.cons rfl (.cons rfl .nil))) (.cons rfl rfl .nil))
            · refine rn 2 rfl ?_
              obtain ⟨y837, ey837, h838⟩ := bd h836; clear h836
              refine sx rfl (o_call (f_R6_Reads _ _ _ ey837) (.inl rfl) rfl rfl rfl ?_)
              refine rl rfl ?_
              have hr := Option.some.inj h838; subst hr
              exact npn (wk [(0, 0)] (free hA _) rfl rfl rfl (.cons rfl (.cons rfl (.cons rfl .nil))) (.cons rfl rfl .nil))
        · refine cd rfl h839 (fun h840 => ?_) (fun h843 => ?_) <;> clear h839
          · refine rs env_ok ?_
            refine rl rfl ?_
            refine dwp_ret ?_
            refine inB_r ?_
            refine thenD_r ?_
            obtain ⟨a841, h842, rfl⟩ := mps h840; clear h840
            refine lpt ?_
            refine inB_r ?_
            refine thenD_r ?_
            have hr := Option.some.inj h842; subst hr
            exact er rfl Le.rfl
          · refine dwp_skip ?_
            refine inB_n ?_
            refine thenD_n ?_
            refine rg env_ok ?_
            refine rl rfl ?_
            have hr := Option.some.inj h843; subst hr
            exact lpn (wk [(0, 0)] (free hA _) rfl rfl rfl (.cons rfl (.cons rfl .nil)) (.cons rfl rfl .nil))
  · refine dwp_exit ?_
    refine thenD_x ?_
    obtain ⟨a845, h846, rfl⟩ := mp h844; clear h844
    refine lpx ?_
    refine inB_x ?_
    refine thenD_n ?_
    refine dwp_seq ?_
    refine rs env_ok ?_
    refine rl rfl ?_
    refine dwp_block ?_
    apply lp (a := a845) (fun s968 : Int => ⟨81, [(1, .lpb 0 0), (8, .p (.int .i64 s968))], [(0, .box [.p (.slice 3 (x0.elems.map elemC)), .p (.slice 4 (x0.joins.map joinC)), .p (.slice 4 (x0.signals.map signalC)), .p (.slice 2 (x0.lines.map lineC)), .p (.int .i64 x0.top), .p (.int .i64 x0.brake), .p (.int .i64 x0.margin), .p (.int .i64 x0.throw), .p (.bool x0.hard)])], 1⟩) h846 <;> clear h846
    · exact wk [(0, 0)] (free hA _) rfl rfl rfl (.cons rfl (.cons rfl .nil)) (.cons rfl rfl .nil)
    intro s968 b1045 h1046
    unfold g_R6_signals_l2 at h1046
    refine dwp_seq ?_
    refine rs env_ok ?_
    refine rn 3 rfl ?_
    refine sx rfl (o_len rfl rfl ?_)
    refine rl rfl ?_
    refine cd rfl h1046 (fun h1049 => ?_) (fun h1086 => ?_) <;> clear h1046
    · refine dwp_skip ?_
      refine thenD_n ?_
      refine dwp_seq ?_
      refine dwp_block ?_
      refine jb (fun t1073 : Bool => ⟨81, [(1, .lpb 0 0), (8, .p (.int .i64 s968)), (80, .p (.bool t1073))], [(0, .box [.p (.slice 3 (x0.elems.map elemC)), .p (.slice 4 (x0.joins.map joinC)), .p (.slice 4 (x0.signals.map signalC)), .p (.slice 2 (x0.lines.map lineC)), .p (.int .i64 x0.top), .p (.int .i64 x0.brake), .p (.int .i64 x0.margin), .p (.int .i64 x0.throw), .p (.bool x0.hard)])], 1⟩) h1049 (fun t1073 h1074 => ?_) (fun t1073 h1081 => ?_) <;> clear h1049
      · refine rg env_ok ?_
        refine rn 3 rfl ?_
        obtain ⟨y1075, ey1075, h1076⟩ := bd h1074; clear h1074
        refine sx rfl (o_idx ey1075 rfl rfl rfl ?_)
        refine rn 4 rfl ?_
        refine gs 74 h1076 rfl rfl rfl (fun h1077 => ?_) (fun h1080 => ?_) <;> clear h1076
        · refine rn 3 rfl ?_
          obtain ⟨y1078, ey1078, h1079⟩ := bd h1077; clear h1077
          refine sx rfl (o_call (f_R6_Reads _ _ _ ey1078) (.inl rfl) rfl rfl rfl ?_)
          refine rl rfl ?_
          have hr := Option.some.inj h1079; subst hr
          exact npn (wk [(0, 0)] (free hA _) rfl rfl rfl (.cons rfl (.cons rfl (.cons rfl .nil))) (.cons rfl rfl .nil))
        · refine rl rfl ?_
          have hr := Option.some.inj h1080; subst hr
          exact npn (wk [(0, 0)] (free hA _) rfl rfl rfl (.cons rfl (.cons rfl (.cons rfl .nil))) (.cons rfl rfl .nil))
      · refine cd rfl h1081 (fun h1082 => ?_) (fun h1085 => ?_) <;> clear h1081
        · refine rs env_ok ?_
          refine rl rfl ?_
          refine dwp_ret ?_
          refine inB_r ?_
          refine thenD_r ?_
          obtain ⟨a1083, h1084, rfl⟩ := mps h1082; clear h1082
          refine lpt ?_
          refine inB_r ?_
          refine thenD_r ?_
          have hr := Option.some.inj h1084; subst hr
          exact er rfl Le.rfl
        · refine dwp_skip ?_
          refine inB_n ?_
          refine thenD_n ?_
          refine rg env_ok ?_
          refine rl rfl ?_
          have hr := Option.some.inj h1085; subst hr
          exact lpn (wk [(0, 0)] (free hA _) rfl rfl rfl (.cons rfl (.cons rfl .nil)) (.cons rfl rfl .nil))
    · refine dwp_exit ?_
      refine thenD_x ?_
      obtain ⟨a1087, h1088, rfl⟩ := mps h1086; clear h1086
      refine lpx ?_
      refine inB_x ?_
      refine thenD_n ?_
      refine rs env_ok ?_
      refine rl rfl ?_
      refine dwp_ret ?_
      have hr := Option.some.inj h1088; subst hr
      exact er rfl Le.rfl

end Go.E
/- Plain functions, and walks in step with them. Written by a program (gen.py). No condition. -/
set_option maxRecDepth 100000
namespace Go.E
open Go Go.RowKit Go.Proofs

noncomputable def g_R6_In_l1 (x0 : (List Int)) (x1 : Int) (s56 : Int) : Option (Int ⊕ Bool) :=
  bif decide (s56 < (x0.length : Int)) then (idx x0 s56).bind fun y102 => bif (y102 == x1) then some (.inr true) else some (.inl (wi64 (s56 + 1))) else some (.inr false)

noncomputable def g_R6_In (x0 : (List Int)) (x1 : Int) : Option Bool :=
  loopR (g_R6_In_l1 x0 x1) 0

theorem f_R6_In (x0 : (List Int)) (x1 : Int) (r : Bool) (h : g_R6_In x0 x1 = some r) : Fun Try.prog 29 [.slice 1 (x0.map intC), .int .i64 x1] (· = .bool r) := by
  refine fn env_ok Try.func29 rfl rfl 18 rfl [.tmp 4] rfl [(0, .p (.slice 1 (x0.map intC))), (1, .p (.int .i64 x1))] rfl rfl fun A hA => ?_
  unfold g_R6_In at h
  refine rs env_ok ?_
  refine rl rfl ?_
  refine dwp_seq ?_
  refine rs env_ok ?_
  refine rl rfl ?_
  refine dwp_block ?_
  apply lp (a := r) (fun s56 : Int => ⟨18, [(0, .p (.slice 1 (x0.map intC))), (1, .p (.int .i64 x1)), (5, .p (.int .i64 s56))], [], 0⟩) h <;> clear h
  · exact wk [] (free hA _) rfl rfl rfl (.cons rfl (.cons rfl (.cons rfl .nil))) .nil
  intro s56 b89 h90
  unfold g_R6_In_l1 at h90
  refine dwp_seq ?_
  refine rs env_ok ?_
  refine rn 2 rfl ?_
  refine sx rfl (o_len rfl rfl ?_)
  refine rl rfl ?_
  refine cd rfl h90 (fun h93 => ?_) (fun h108 => ?_) <;> clear h90
  · refine dwp_skip ?_
    refine thenD_n ?_
    refine dwp_seq ?_
    refine dwp_block ?_
    refine rs env_ok ?_
    refine rn 2 rfl ?_
    obtain ⟨y102, ey102, h103⟩ := bd h93; clear h93
    refine sx rfl (o_idx ey102 rfl rfl rfl ?_)
    refine rl rfl ?_
    refine cd rfl h103 (fun h104 => ?_) (fun h107 => ?_) <;> clear h103
    · refine rs env_ok ?_
      refine rl rfl ?_
      refine dwp_ret ?_
      refine inB_r ?_
      refine thenD_r ?_
      obtain ⟨a105, h106, rfl⟩ := mps h104; clear h104
      refine lpt ?_
      refine inB_r ?_
      refine thenD_r ?_
      have hr := Option.some.inj h106; subst hr
      exact er rfl Le.rfl
    · refine dwp_skip ?_
      refine inB_n ?_
      refine thenD_n ?_
      refine rg env_ok ?_
      refine rl rfl ?_
      have hr := Option.some.inj h107; subst hr
      exact lpn (wk [] (free hA _) rfl rfl rfl (.cons rfl (.cons rfl (.cons rfl .nil))) .nil)
  · refine dwp_exit ?_
    refine thenD_x ?_
    obtain ⟨a109, h110, rfl⟩ := mps h108; clear h108
    refine lpx ?_
    refine inB_x ?_
    refine thenD_n ?_
    refine rs env_ok ?_
    refine rl rfl ?_
    refine dwp_ret ?_
    have hr := Option.some.inj h110; subst hr
    exact er rfl Le.rfl

noncomputable def g_R6_enters_l3 (x0 : Plan) (x1 : (List Int)) (s722 : Int × Int × (List Int)) : Option ((Int × Int × (List Int)) ⊕ ((List Int) × Bool)) :=
  bif decide (s722.2.1 < (x1.length : Int)) then (idx x1 (wi64 (s722.2.1 - 1))).bind fun y930 => (g_R6_Next x0 (⟨y930, s722.1⟩ : Port)).bind fun y932 => ((bif (!y932.2) then some true else (idx x1 s722.2.1).bind fun y955 => some (y932.1.elem != y955) : Option (Bool))).bind fun (t951 : Bool) => bif t951 then some (.inr ([], false)) else (appI s722.2.2 [y932.1.fin]).bind fun y964 => some (.inl (wi64 (1 - y932.1.fin), wi64 (s722.2.1 + 1), y964)) else some (.inr (s722.2.2, true))

noncomputable def g_R6_enters_l2 (x0 : Plan) (x1 : (List Int)) (s319 : Int × Int) : Option ((Int × Int) ⊕ ((List Int) × Bool)) :=
  bif decide (0 ≤ s319.2) then (((idx x1 0).bind fun y450 => (g_R6_Next x0 (⟨y450, s319.2⟩ : Port)).bind fun y452 => ((bif y452.2 then (idx x1 1).bind fun y461 => some (y452.1.elem == y461) else some false : Option (Bool))).bind fun (t458 : Bool) => bif t458 then some s319.2 else some s319.1 : Option (Int))).bind fun (t444 : Int) => some (.inl (t444, wi64 (s319.2 - 1))) else (bif decide (s319.1 < 0) then some ([], false) else loopR (g_R6_enters_l3 x0 x1) (s319.1, 1, [wi64 (1 - s319.1)])).map .inr

noncomputable def g_R6_enters_l1 (x0 : Plan) (x1 : (List Int)) (s84 : Int) : Option (Int ⊕ ((List Int) × Bool)) :=
  bif decide (s84 < (x1.length : Int)) then (idx x1 s84).bind fun y152 => (g_R6_kind x0 y152).bind fun y154 => bif (y154 != 1) then some (.inr ([], false)) else some (.inl (wi64 (s84 + 1))) else (bif ((x1.length : Int) == 1) then some ([0], true) else loopR (g_R6_enters_l2 x0 x1) ((-1), 1)).map .inr

noncomputable def g_R6_enters (x0 : Plan) (x1 : (List Int)) : Option ((List Int) × Bool) :=
  bif ((x1.length : Int) == 0) then some ([], false) else loopR (g_R6_enters_l1 x0 x1) 0

theorem f_R6_enters (x0 : Plan) (x1 : (List Int)) (r : ((List Int) × Bool)) (h : g_R6_enters x0 x1 = some r) : Fun Try.prog 100 [.agg (planC x0), .slice 1 (x1.map intC)] (· = .tup [.slice 1 (r.1.map intC), .bool r.2]) := by
  refine fn env_ok Try.func100 rfl rfl 102 rfl [.tmp 4, .tmp 5] rfl [(0, .p (.agg (planC x0))), (1, .p (.slice 1 (x1.map intC)))] rfl rfl fun A hA => ?_
  unfold g_R6_enters at h
  refine rs env_ok ?_
  refine rl rfl ?_
  refine dwp_seq ?_
  refine rs env_ok ?_
  refine rn 1 rfl ?_
  refine sx rfl (o_len rfl rfl ?_)
  refine rl rfl ?_
  refine cd rfl h (fun h3 => ?_) (fun h4 => ?_) <;> clear h
  · refine rs env_ok ?_
    refine rl rfl ?_
    refine dwp_ret ?_
    refine thenD_r ?_
    have hr := Option.some.inj h3; subst hr
    exact er rfl (Le.tup' (.cons (Le.nil _) (.cons Le.rfl .nil)))
  · refine dwp_skip ?_
    refine thenD_n ?_
    refine dwp_seq ?_
    refine rs env_ok ?_
    refine rl rfl ?_
    refine dwp_block ?_
    apply lp (a := r) (fun s84 : Int => ⟨102, [(1, .p (.slice 1 (x1.map intC))), (2, .lpb 0 0), (6, .p (.int .i64 s84))], [(0, .box [.p (.slice 3 (x0.elems.map elemC)), .p (.slice 4 (x0.joins.map joinC)), .p (.slice 4 (x0.signals.map signalC)), .p (.slice 2 (x0.lines.map lineC)), .p (.int .i64 x0.top), .p (.int .i64 x0.brake), .p (.int .i64 x0.margin), .p (.int .i64 x0.throw), .p (.bool x0.hard)])], 1⟩) h4 <;> clear h4
    · exact wk [(0, 0)] (free hA _) rfl rfl rfl (.cons rfl (.cons rfl (.cons rfl .nil))) (.cons rfl rfl .nil)
    intro s84 b133 h134
    unfold g_R6_enters_l1 at h134
    refine dwp_seq ?_
    refine rs env_ok ?_
    refine rn 2 rfl ?_
    refine sx rfl (o_len rfl rfl ?_)
    refine rl rfl ?_
    refine cd rfl h134 (fun h137 => ?_) (fun h160 => ?_) <;> clear h134
    · refine dwp_skip ?_
      refine thenD_n ?_
      refine dwp_seq ?_
      refine dwp_block ?_
      refine dwp_seq ?_
      refine rgd env_ok mixed [0, 1, 2, 3, 4, 5, 6] 7 (by kernel_rfl) rfl rfl rfl ?_
      refine rnD 3 rfl ?_
      obtain ⟨y152, ey152, h153⟩ := bd h137; clear h137
      refine sxD rfl (opD_plain rfl (o_idx ey152 rfl rfl rfl ?_))
      refine rnD 1 rfl ?_
      obtain ⟨y154, ey154, h155⟩ := bd h153; clear h153
      refine sxD rfl (o_callD (f_R6_kind _ _ _ ey154) (.inl rfl) rfl rfl rfl ?_)
      refine rlD rfl ?_
      refine thenD_n ?_
      refine cd rfl h155 (fun h156 => ?_) (fun h159 => ?_) <;> clear h155
      · refine rs env_ok ?_
        refine rl rfl ?_
        refine dwp_ret ?_
        refine inB_r ?_
        refine thenD_r ?_
        obtain ⟨a157, h158, rfl⟩ := mps h156; clear h156
        refine lpt ?_
        refine inB_r ?_
        refine thenD_r ?_
        have hr := Option.some.inj h158; subst hr
        exact er rfl (Le.tup' (.cons (Le.nil _) (.cons Le.rfl .nil)))
      · refine dwp_skip ?_
        refine inB_n ?_
        refine thenD_n ?_
        refine rg env_ok ?_
        refine rl rfl ?_
        have hr := Option.some.inj h159; subst hr
        exact lpn (wk [(0, 0)] (free hA _) rfl rfl rfl (.cons rfl (.cons rfl (.cons rfl .nil))) (.cons rfl rfl .nil))
    · refine dwp_exit ?_
      refine thenD_x ?_
      obtain ⟨a161, h162, rfl⟩ := mp h160; clear h160
      refine lpx ?_
      refine inB_x ?_
      refine thenD_n ?_
      refine dwp_seq ?_
      refine rs env_ok ?_
      refine rn 1 rfl ?_
      refine sx rfl (o_len rfl rfl ?_)
      refine rl rfl ?_
      refine cd rfl h162 (fun h165 => ?_) (fun h166 => ?_) <;> clear h162
      · refine rs env_ok ?_
        refine rl rfl ?_
        refine dwp_ret ?_
        refine thenD_r ?_
        have hr := Option.some.inj h165; subst hr
        exact er (rdN rfl (.cons (.one (.own (enc := intC) ([0] : List Int) rfl rfl)) (.cons (.one (.p _)) .nil))) Le.rfl
      · refine dwp_skip ?_
        refine thenD_n ?_
        refine rs env_ok ?_
        refine rl rfl ?_
        refine dwp_seq ?_
        refine rs env_ok ?_
        refine rl rfl ?_
        refine dwp_block ?_
        apply lp (a := a161) (fun s319 : (Int × Int) => ⟨102, [(1, .p (.slice 1 (x1.map intC))), (2, .lpb 0 0), (7, .p (.int .i64 s319.1)), (8, .p (.int .i64 s319.2))], [(0, .box [.p (.slice 3 (x0.elems.map elemC)), .p (.slice 4 (x0.joins.map joinC)), .p (.slice 4 (x0.signals.map signalC)), .p (.slice 2 (x0.lines.map lineC)), .p (.int .i64 x0.top), .p (.int .i64 x0.brake), .p (.int .i64 x0.margin), .p (.int .i64 x0.throw), .p (.bool x0.hard)])], 1⟩) h166 <;> clear h166
        · exact wk [(0, 0)] (free hA _) rfl rfl rfl (.cons rfl (.cons rfl (.cons rfl (.cons rfl .nil)))) (.cons rfl rfl .nil)
        intro s319 b418 h419
        unfold g_R6_enters_l2 at h419
        refine dwp_seq ?_
        refine rs env_ok ?_
        refine rl rfl ?_
        refine cd rfl h419 (fun h422 => ?_) (fun h468 => ?_) <;> clear h419
        · refine dwp_skip ?_
          refine thenD_n ?_
          refine jb (fun t444 : Int => ⟨102, [(1, .p (.slice 1 (x1.map intC))), (2, .lpb 0 0), (7, .p (.int .i64 t444)), (8, .p (.int .i64 s319.2))], [(0, .box [.p (.slice 3 (x0.elems.map elemC)), .p (.slice 4 (x0.joins.map joinC)), .p (.slice 4 (x0.signals.map signalC)), .p (.slice 2 (x0.lines.map lineC)), .p (.int .i64 x0.top), .p (.int .i64 x0.brake), .p (.int .i64 x0.margin), .p (.int .i64 x0.throw), .p (.bool x0.hard)])], 1⟩) h422 (fun t444 h445 => ?_) (fun t444 h467 => ?_) <;> clear h422
          · refine dwp_block ?_
            refine dwp_seq ?_
            refine rgd env_ok mixed [0, 1, 2, 3, 4, 5, 6, 7, 8, 9, 10, 11, 12] 13 (by kernel_rfl) rfl rfl rfl ?_
            refine rnD 2 rfl ?_
            obtain ⟨y450, ey450, h451⟩ := bd h445; clear h445
            refine sxD rfl (opD_plain rfl (o_idx ey450 rfl rfl rfl ?_))
            refine rnD 3 rfl ?_
            obtain ⟨y452, ey452, h453⟩ := bd h451; clear h451
            refine sxD rfl (o_callD (f_R6_Next _ _ _ ey452) (.inl rfl) rfl rfl rfl ?_)
            refine rlD rfl ?_
            refine thenD_n ?_
            refine jb (fun t458 : Bool => ⟨102, [(1, .p (.slice 1 (x1.map intC))), (2, .lpb 0 0), (7, .p (.int .i64 s319.1)), (8, .p (.int .i64 s319.2)), (57, .p (.bool t458))], [(0, .box [.p (.slice 3 (x0.elems.map elemC)), .p (.slice 4 (x0.joins.map joinC)), .p (.slice 4 (x0.signals.map signalC)), .p (.slice 2 (x0.lines.map lineC)), .p (.int .i64 x0.top), .p (.int .i64 x0.brake), .p (.int .i64 x0.margin), .p (.int .i64 x0.throw), .p (.bool x0.hard)])], 1⟩) h453 (fun t458 h459 => ?_) (fun t458 h464 => ?_) <;> clear h453
            · refine rgd env_ok mixed [0, 1, 2, 3, 4, 5, 6, 7, 8] 9 (by kernel_rfl) rfl rfl rfl ?_
              refine rnD 2 rfl ?_
              refine gsD 50 h459 rfl rfl rfl (fun h460 => ?_) (fun h463 => ?_) <;> clear h459
              · refine rnD 3 rfl ?_
                obtain ⟨y461, ey461, h462⟩ := bd h460; clear h460
                refine sxD rfl (opD_plain rfl (o_idx ey461 rfl rfl rfl ?_))
                refine rlD rfl ?_
                have hr := Option.some.inj h462; subst hr
                exact npn (wk [(0, 0)] (free hA _) rfl rfl rfl (.cons rfl (.cons rfl (.cons rfl (.cons rfl (.cons rfl .nil))))) (.cons rfl rfl .nil))
              · refine rlD rfl ?_
                have hr := Option.some.inj h463; subst hr
                exact npn (wk [(0, 0)] (free hA _) rfl rfl rfl (.cons rfl (.cons rfl (.cons rfl (.cons rfl (.cons rfl .nil))))) (.cons rfl rfl .nil))
            · refine cd rfl h464 (fun h465 => ?_) (fun h466 => ?_) <;> clear h464
              · refine rg env_ok ?_
                refine rl rfl ?_
                refine inB_n ?_
                have hr := Option.some.inj h465; subst hr
                exact npn (wk [(0, 0)] (free hA _) rfl rfl rfl (.cons rfl (.cons rfl (.cons rfl (.cons rfl .nil)))) (.cons rfl rfl .nil))
              · refine dwp_skip ?_
                refine inB_n ?_
                have hr := Option.some.inj h466; subst hr
                exact npn (wk [(0, 0)] (free hA _) rfl rfl rfl (.cons rfl (.cons rfl (.cons rfl (.cons rfl .nil)))) (.cons rfl rfl .nil))
          · refine rg env_ok ?_
            refine rl rfl ?_
            have hr := Option.some.inj h467; subst hr
            exact lpn (wk [(0, 0)] (free hA _) rfl rfl rfl (.cons rfl (.cons rfl (.cons rfl (.cons rfl .nil)))) (.cons rfl rfl .nil))
        · refine dwp_exit ?_
          refine thenD_x ?_
          obtain ⟨a469, h470, rfl⟩ := mp h468; clear h468
          refine lpx ?_
          refine inB_x ?_
          refine thenD_n ?_
          refine dwp_seq ?_
          refine rs env_ok ?_
          refine rl rfl ?_
          refine cd rfl h470 (fun h473 => ?_) (fun h474 => ?_) <;> clear h470
          · refine rs env_ok ?_
            refine rl rfl ?_
            refine dwp_ret ?_
            refine thenD_r ?_
            have hr := Option.some.inj h473; subst hr
            exact er rfl (Le.tup' (.cons (Le.nil _) (.cons Le.rfl .nil)))
          · refine dwp_skip ?_
            refine thenD_n ?_
            refine rs env_ok ?_
            refine rl rfl ?_
            refine dwp_seq ?_
            refine rs env_ok ?_
            refine rl rfl ?_
            refine dwp_block ?_
            apply lp (a := a469) (fun s722 : (Int × Int × (List Int)) => ⟨102, [(1, .p (.slice 1 (x1.map intC))), (2, .lpb 0 0), (7, .p (.int .i64 s722.1)), (11, .lsl 1 1 0 s722.2.2.length), (12, .p (.int .i64 s722.2.1))], [(0, .box [.p (.slice 3 (x0.elems.map elemC)), .p (.slice 4 (x0.joins.map joinC)), .p (.slice 4 (x0.signals.map signalC)), .p (.slice 2 (x0.lines.map lineC)), .p (.int .i64 x0.top), .p (.int .i64 x0.brake), .p (.int .i64 x0.margin), .p (.int .i64 x0.throw), .p (.bool x0.hard)]), (1, .row 3 1 (s722.2.2.map intC))], 2⟩) h474 <;> clear h474
            · exact wk [(0, 0), (1, 1)] (free hA _) rfl rfl rfl (.cons rfl (.cons rfl (.cons rfl (.cons rfl (.cons rfl .nil))))) (.cons rfl rfl (.cons rfl rfl .nil))
            intro s722 b883 h884
            unfold g_R6_enters_l3 at h884
            refine dwp_seq ?_
            refine rs env_ok ?_
            refine rn 2 rfl ?_
            refine sx rfl (o_len rfl rfl ?_)
            refine rl rfl ?_
            refine cd rfl h884 (fun h887 => ?_) (fun h966 => ?_) <;> clear h884
            · refine dwp_skip ?_
              refine thenD_n ?_
              refine dwp_seq ?_
              refine dwp_block ?_
              refine dwp_seq ?_
              refine rgd env_ok mixed [0, 1, 2, 3, 4, 5, 6, 7, 8, 9, 10, 11, 12, 13, 14] 15 (by kernel_rfl) rfl rfl rfl ?_
              refine rnD 4 rfl ?_
              obtain ⟨y930, ey930, h931⟩ := bd h887; clear h887
              refine sxD rfl (opD_plain rfl (o_idx ey930 rfl rfl rfl ?_))
              refine rnD 3 rfl ?_
              obtain ⟨y932, ey932, h933⟩ := bd h931; clear h931
              refine sxD rfl (o_callD (f_R6_Next _ _ _ ey932) (.inl rfl) rfl rfl rfl ?_)
              refine rlD rfl ?_
              refine thenD_n ?_
              refine dwp_seq ?_
              refine jb (fun t951 : Bool => ⟨102, [(1, .p (.slice 1 (x1.map intC))), (2, .lpb 0 0), (11, .lsl 1 1 0 s722.2.2.length), (12, .p (.int .i64 s722.2.1)), (13, .lpb 2 0), (92, .p (.bool t951))], [(0, .box [.p (.slice 3 (x0.elems.map elemC)), .p (.slice 4 (x0.joins.map joinC)), .p (.slice 4 (x0.signals.map signalC)), .p (.slice 2 (x0.lines.map lineC)), .p (.int .i64 x0.top), .p (.int .i64 x0.brake), .p (.int .i64 x0.margin), .p (.int .i64 x0.throw), .p (.bool x0.hard)]), (1, .row 3 1 (s722.2.2.map intC)), (2, .box [.p (.int .i64 y932.1.elem), .p (.int .i64 y932.1.fin)])], 3⟩) h933 (fun t951 h952 => ?_) (fun t951 h957 => ?_) <;> clear h933
              · refine rgd env_ok mixed [0, 1, 2, 3, 4, 5, 6, 7, 8, 9, 10] 11 (by kernel_rfl) rfl rfl rfl ?_
                refine rnD 3 rfl ?_
                refine gsD 84 h952 rfl rfl rfl (fun h953 => ?_) (fun h954 => ?_) <;> clear h952
                · refine rlD rfl ?_
                  have hr := Option.some.inj h953; subst hr
                  exact npn (wk [(0, 0), (1, 1), (2, 14)] (free hA _) rfl rfl rfl (.cons rfl (.cons rfl (.cons rfl (.cons rfl (.cons rfl (.cons rfl .nil)))))) (.cons rfl rfl (.cons rfl rfl (.cons rfl rfl .nil))))
                · refine rnD 4 rfl ?_
                  obtain ⟨y955, ey955, h956⟩ := bd h954; clear h954
                  refine sxD rfl (opD_plain rfl (o_idx ey955 rfl rfl rfl ?_))
                  refine rlD rfl ?_
                  have hr := Option.some.inj h956; subst hr
                  exact npn (wk [(0, 0), (1, 1), (2, 14)] (free hA _) rfl rfl rfl (.cons rfl (.cons rfl (.cons rfl (.cons rfl (.cons rfl (.cons rfl .nil)))))) (.cons rfl rfl (.cons rfl rfl (.cons rfl rfl .nil))))
              · refine cd rfl h957 (fun h958 => ?_) (fun h961 => ?_) <;> clear h957
                · refine rs env_ok ?_
                  refine rl rfl ?_
                  refine dwp_ret ?_
                  refine thenD_r ?_
                  refine inB_r ?_
                  refine thenD_r ?_
                  obtain ⟨a959, h960, rfl⟩ := mps h958; clear h958
                  refine lpt ?_
                  refine inB_r ?_
                  refine thenD_r ?_
                  have hr := Option.some.inj h960; subst hr
                  exact er rfl (Le.tup' (.cons (Le.nil _) (.cons Le.rfl .nil)))
                · refine dwp_skip ?_
                  refine thenD_n ?_
                  refine rs env_ok ?_
                  refine rn 4 rfl ?_
                  obtain ⟨y964, ey964, h965⟩ := bd h961; clear h961
                  refine sx rfl (o_app1 (enc := intC) (l := s722.2.2) (m := [y932.1.fin]) ey964 (fun _ => ⟨rfl, rfl⟩) rfl rfl rfl rfl rfl rfl ?_)
                  refine rl rfl ?_
                  refine rg env_ok ?_
                  refine rl rfl ?_
                  refine inB_n ?_
                  refine thenD_n ?_
                  refine rg env_ok ?_
                  refine rl rfl ?_
                  have hr := Option.some.inj h965; subst hr
                  exact lpn (wk [(0, 0), (1, 4)] (free hA _) rfl rfl rfl (.cons rfl (.cons rfl (.cons rfl (.cons rfl (.cons rfl .nil))))) (.cons rfl rfl (.cons rfl rfl .nil)))
            · refine dwp_exit ?_
              refine thenD_x ?_
              obtain ⟨a967, h968, rfl⟩ := mps h966; clear h966
              refine lpx ?_
              refine inB_x ?_
              refine thenD_n ?_
              refine rs env_ok ?_
              refine rl rfl ?_
              refine dwp_ret ?_
              have hr := Option.some.inj h968; subst hr
              exact er (rdN rfl (.cons (.one (.own (enc := intC) s722.2.2 rfl rfl)) (.cons (.one (.p _)) .nil))) Le.rfl

noncomputable def g_R6_lines_l2 (x0 : Plan) (s2922 : (Int × (List Int))) (y5502 : Line) (s5667 : Int × (List Int)) : Option ((Int × (List Int)) ⊕ ((Int × (List Int)) ⊕ Bool)) :=
  bif decide (s5667.1 < (y5502.elems.length : Int)) then (idx y5502.elems s5667.1).bind fun y5815 => (g_R6_In s5667.2 y5815).bind fun y5817 => bif y5817 then some (.inr (.inr false)) else (idx y5502.elems s5667.1).bind fun y5825 => (appI s5667.2 [y5825]).bind fun y5827 => some (.inl (wi64 (s5667.1 + 1), y5827)) else ((g_R6_enters x0 y5502.elems).bind fun y5834 => bif (!y5834.2) then some (.inr false) else some (.inl (wi64 (s2922.1 + 1), s5667.2))).map .inr

noncomputable def g_R6_lines_l1 (x0 : Plan) (s2922 : Int × (List Int)) : Option ((Int × (List Int)) ⊕ Bool) :=
  bif decide (s2922.1 < (x0.lines.length : Int)) then (idx x0.lines s2922.1).bind fun y5502 => loopR (g_R6_lines_l2 x0 s2922 y5502) (0, s2922.2) else some (.inr true)

noncomputable def g_R6_lines (x0 : Plan) : Option Bool :=
  loopR (g_R6_lines_l1 x0) (0, ([] : List Int))

theorem f_R6_lines (x0 : Plan) (r : Bool) (h : g_R6_lines x0 = some r) : Fun Try.prog 81 [.agg (planC x0)] (· = .bool r) := by
  refine fn env_ok Try.func81 rfl rfl 49 rfl [.tmp 2] rfl [(0, .p (.agg (planC x0)))] rfl rfl fun A hA => ?_
  unfold g_R6_lines at h
  refine rs env_ok ?_
  refine rl rfl ?_
  refine rs env_ok ?_
  refine rl rfl ?_
  refine dwp_seq ?_
  refine rs env_ok ?_
  refine rl rfl ?_
  refine dwp_block ?_
  apply lp (a := r) (fun s2922 : (Int × (List Int)) => ⟨49, [(1, .lpb 0 0), (3, .lsl 1 1 0 s2922.2.length), (4, .p (.int .i64 s2922.1))], [(0, .box [.p (.slice 3 (x0.elems.map elemC)), .p (.slice 4 (x0.joins.map joinC)), .p (.slice 4 (x0.signals.map signalC)), .p (.slice 2 (x0.lines.map lineC)), .p (.int .i64 x0.top), .p (.int .i64 x0.brake), .p (.int .i64 x0.margin), .p (.int .i64 x0.throw), .p (.bool x0.hard)]), (1, .row 3 1 (s2922.2.map intC))], 2⟩) h <;> clear h
  · exact Weak.trans (weak_ghost 3 3 1 rfl) (wk [(0, 0), (1, 1)] (free hA _) rfl rfl rfl (.cons rfl (.cons rfl (.cons rfl .nil))) (.cons rfl rfl (.cons rfl rfl .nil)))
  intro s2922 b5159 h5160
  unfold g_R6_lines_l1 at h5160
  refine dwp_seq ?_
  refine rs env_ok ?_
  refine rn 3 rfl ?_
  refine sx rfl (o_len rfl rfl ?_)
  refine rl rfl ?_
  refine cd rfl h5160 (fun h5163 => ?_) (fun h5840 => ?_) <;> clear h5160
  · refine dwp_skip ?_
    refine thenD_n ?_
    refine dwp_seq ?_
    refine dwp_block ?_
    refine rs env_ok ?_
    refine rn 3 rfl ?_
    obtain ⟨y5502, ey5502, h5503⟩ := bd h5163; clear h5163
    refine sx rfl (o_idx ey5502 rfl rfl rfl ?_)
    refine rl rfl ?_
    refine dwp_seq ?_
    refine rs env_ok ?_
    refine rl rfl ?_
    refine dwp_block ?_
    apply lp (a := b5159) (fun s5667 : (Int × (List Int)) => ⟨49, [(1, .lpb 0 0), (3, .lsl 1 1 0 s5667.2.length), (4, .p (.int .i64 s2922.1)), (5, .p (.slice 1 (y5502.elems.map intC))), (6, .p (.int .i64 s5667.1))], [(0, .box [.p (.slice 3 (x0.elems.map elemC)), .p (.slice 4 (x0.joins.map joinC)), .p (.slice 4 (x0.signals.map signalC)), .p (.slice 2 (x0.lines.map lineC)), .p (.int .i64 x0.top), .p (.int .i64 x0.brake), .p (.int .i64 x0.margin), .p (.int .i64 x0.throw), .p (.bool x0.hard)]), (1, .row 3 1 (s5667.2.map intC))], 2⟩) h5503 <;> clear h5503
    · exact wk [(0, 0), (1, 1)] (free hA _) rfl rfl rfl (.cons rfl (.cons rfl (.cons rfl (.cons rfl (.cons rfl .nil))))) (.cons rfl rfl (.cons rfl rfl .nil))
    intro s5667 b5772 h5773
    unfold g_R6_lines_l2 at h5773
    refine dwp_seq ?_
    refine rs env_ok ?_
    refine rn 2 rfl ?_
    refine sx rfl (o_len rfl rfl ?_)
    refine rl rfl ?_
    refine cd rfl h5773 (fun h5776 => ?_) (fun h5829 => ?_) <;> clear h5773
    · refine dwp_skip ?_
      refine thenD_n ?_
      refine dwp_seq ?_
      refine dwp_block ?_
      refine dwp_seq ?_
      refine rs env_ok ?_
      refine rn 3 rfl ?_
      obtain ⟨y5815, ey5815, h5816⟩ := bd h5776; clear h5776
      refine sx rfl (o_idx ey5815 rfl rfl rfl ?_)
      refine rn 1 rfl ?_
      obtain ⟨y5817, ey5817, h5818⟩ := bd h5816; clear h5816
      refine sx rfl (o_call (f_R6_In _ _ _ ey5817) (.inl rfl) rfl rfl (LdA.eq (.cons (.one (.own (enc := intC) s5667.2 rfl rfl)) (.cons (.one (.p _)) .nil))) ?_)
      refine rl rfl ?_
      refine cd rfl h5818 (fun h5819 => ?_) (fun h5824 => ?_) <;> clear h5818
      · refine rs env_ok ?_
        refine rl rfl ?_
        refine dwp_ret ?_
        refine thenD_r ?_
        refine inB_r ?_
        refine thenD_r ?_
        obtain ⟨a5820, h5821, rfl⟩ := mps h5819; clear h5819
        refine lpt ?_
        refine inB_r ?_
        refine thenD_r ?_
        refine inB_r ?_
        refine thenD_r ?_
        obtain ⟨a5822, h5823, rfl⟩ := mps h5821; clear h5821
        refine lpt ?_
        refine inB_r ?_
        refine thenD_r ?_
        have hr := Option.some.inj h5823; subst hr
        exact er rfl Le.rfl
      · refine dwp_skip ?_
        refine thenD_n ?_
        refine rg env_ok ?_
        refine rn 3 rfl ?_
        obtain ⟨y5825, ey5825, h5826⟩ := bd h5824; clear h5824
        refine sx rfl (o_idx ey5825 rfl rfl rfl ?_)
        refine rn 2 rfl ?_
        obtain ⟨y5827, ey5827, h5828⟩ := bd h5826; clear h5826
        refine sx rfl (o_app1 (enc := intC) (l := s5667.2) (m := [y5825]) ey5827 (fun _ => ⟨rfl, rfl⟩) rfl rfl rfl rfl rfl rfl ?_)
        refine rl rfl ?_
        refine inB_n ?_
        refine thenD_n ?_
        refine rg env_ok ?_
        refine rl rfl ?_
        have hr := Option.some.inj h5828; subst hr
        exact lpn (wk [(0, 0), (1, 3)] (free hA _) rfl rfl rfl (.cons rfl (.cons rfl (.cons rfl (.cons rfl (.cons rfl .nil))))) (.cons rfl rfl (.cons rfl rfl .nil)))
    · refine dwp_exit ?_
      refine thenD_x ?_
      obtain ⟨a5830, h5831, rfl⟩ := mp h5829; clear h5829
      refine lpx ?_
      refine inB_x ?_
      refine thenD_n ?_
      refine rs env_ok ?_
      refine rn 2 rfl ?_
      obtain ⟨y5834, ey5834, h5835⟩ := bd h5831; clear h5831
      refine sx rfl (o_call (f_R6_enters _ _ _ ey5834) (.inr rfl) rfl rfl rfl ?_)
      refine rl rfl ?_
      refine rs env_ok ?_
      refine rl rfl ?_
      refine cd rfl h5835 (fun h5836 => ?_) (fun h5839 => ?_) <;> clear h5835
      · refine rs env_ok ?_
        refine rl rfl ?_
        refine dwp_ret ?_
        refine inB_r ?_
        refine thenD_r ?_
        obtain ⟨a5837, h5838, rfl⟩ := mps h5836; clear h5836
        refine lpt ?_
        refine inB_r ?_
        refine thenD_r ?_
        have hr := Option.some.inj h5838; subst hr
        exact er rfl Le.rfl
      · refine dwp_skip ?_
        refine inB_n ?_
        refine thenD_n ?_
        refine rg env_ok ?_
        refine rl rfl ?_
        have hr := Option.some.inj h5839; subst hr
        exact lpn (wk [(0, 0), (1, 1)] (free hA _) rfl rfl rfl (.cons rfl (.cons rfl (.cons rfl .nil))) (.cons rfl rfl (.cons rfl rfl .nil)))
  · refine dwp_exit ?_
    refine thenD_x ?_
    obtain ⟨a5841, h5842, rfl⟩ := mps h5840; clear h5840
    refine lpx ?_
    refine inB_x ?_
    refine thenD_n ?_
    refine rs env_ok ?_
    refine rl rfl ?_
    refine dwp_ret ?_
    have hr := Option.some.inj h5842; subst hr
    exact er rfl Le.rfl

noncomputable def g_R6_Stop_l1 (x1 : Int) (s52 : Int × Int) : Option ((Int × Int) ⊕ Int) :=
  bif decide (0 < s52.1) then some (.inl (wi64 (s52.1 - x1), wi64 (s52.2 + s52.1))) else some (.inr s52.2)

noncomputable def g_R6_Stop (x0 : Int) (x1 : Int) : Option Int :=
  ((bif decide (x0 < 0) then some true else bif decide (60 < x0) then some true else bif decide (x1 < 1) then some true else some (decide (10 < x1)) : Option (Bool))).bind fun (t24 : Bool) => bif t24 then some 0 else loopR (g_R6_Stop_l1 x1) (wi64 (x0 - x1), 0)

theorem f_R6_Stop (x0 : Int) (x1 : Int) (r : Int) (h : g_R6_Stop x0 x1 = some r) : Fun Try.prog 101 [.int .i64 x0, .int .i64 x1] (· = .int .i64 r) := by
  refine fn env_ok Try.func101 rfl rfl 32 rfl [.tmp 4] rfl [(0, .p (.int .i64 x0)), (1, .p (.int .i64 x1))] rfl rfl fun A hA => ?_
  unfold g_R6_Stop at h
  refine rs env_ok ?_
  refine rl rfl ?_
  refine dwp_seq ?_
  refine jb (fun t24 : Bool => ⟨32, [(0, .p (.int .i64 x0)), (1, .p (.int .i64 x1)), (19, .p (.bool t24))], [], 0⟩) h (fun t24 h25 => ?_) (fun t24 h32 => ?_) <;> clear h
  · refine rg env_ok ?_
    refine rn 3 rfl ?_
    refine gs 8 h25 rfl rfl rfl (fun h26 => ?_) (fun h27 => ?_) <;> clear h25
    · refine rl rfl ?_
      have hr := Option.some.inj h26; subst hr
      exact npn (wk [] (free hA _) rfl rfl rfl (.cons rfl (.cons rfl (.cons rfl .nil))) .nil)
    · refine rn 4 rfl ?_
      refine gs 12 h27 rfl rfl rfl (fun h28 => ?_) (fun h29 => ?_) <;> clear h27
      · refine rl rfl ?_
        have hr := Option.some.inj h28; subst hr
        exact npn (wk [] (free hA _) rfl rfl rfl (.cons rfl (.cons rfl (.cons rfl .nil))) .nil)
      · refine rn 4 rfl ?_
        refine gs 16 h29 rfl rfl rfl (fun h30 => ?_) (fun h31 => ?_) <;> clear h29
        · refine rl rfl ?_
          have hr := Option.some.inj h30; subst hr
          exact npn (wk [] (free hA _) rfl rfl rfl (.cons rfl (.cons rfl (.cons rfl .nil))) .nil)
        · refine rl rfl ?_
          have hr := Option.some.inj h31; subst hr
          exact npn (wk [] (free hA _) rfl rfl rfl (.cons rfl (.cons rfl (.cons rfl .nil))) .nil)
  · refine cd rfl h32 (fun h33 => ?_) (fun h34 => ?_) <;> clear h32
    · refine rs env_ok ?_
      refine rl rfl ?_
      refine dwp_ret ?_
      refine thenD_r ?_
      have hr := Option.some.inj h33; subst hr
      exact er rfl Le.rfl
    · refine dwp_skip ?_
      refine thenD_n ?_
      refine rs env_ok ?_
      refine rl rfl ?_
      refine dwp_seq ?_
      refine rs env_ok ?_
      refine rl rfl ?_
      refine dwp_block ?_
      apply lp (a := r) (fun s52 : (Int × Int) => ⟨32, [(0, .p (.int .i64 s52.1)), (1, .p (.int .i64 x1)), (5, .p (.int .i64 s52.2))], [], 0⟩) h34 <;> clear h34
      · exact wk [] (free hA _) rfl rfl rfl (.cons rfl (.cons rfl (.cons rfl .nil))) .nil
      intro s52 b61 h62
      unfold g_R6_Stop_l1 at h62
      refine dwp_seq ?_
      refine rs env_ok ?_
      refine rl rfl ?_
      refine cd rfl h62 (fun h65 => ?_) (fun h66 => ?_) <;> clear h62
      · refine dwp_skip ?_
        refine thenD_n ?_
        refine dwp_seq ?_
        refine dwp_block ?_
        refine rg env_ok ?_
        refine rl rfl ?_
        refine inB_n ?_
        refine thenD_n ?_
        refine rg env_ok ?_
        refine rl rfl ?_
        have hr := Option.some.inj h65; subst hr
        exact lpn (wk [] (free hA _) rfl rfl rfl (.cons rfl (.cons rfl (.cons rfl .nil))) .nil)
      · refine dwp_exit ?_
        refine thenD_x ?_
        obtain ⟨a67, h68, rfl⟩ := mps h66; clear h66
        refine lpx ?_
        refine inB_x ?_
        refine thenD_n ?_
        refine rs env_ok ?_
        refine rl rfl ?_
        refine dwp_ret ?_
        have hr := Option.some.inj h68; subst hr
        exact er rfl Le.rfl

noncomputable def g_R6_Length (x0 : Plan) (x1 : Int) : Option Int :=
  ((bif decide (x1 < 0) then some true else some (decide ((x0.elems.length : Int) ≤ x1)) : Option (Bool))).bind fun (t12 : Bool) => bif t12 then some 0 else (idx x0.elems x1).bind fun y21 => some y21.length

theorem f_R6_Length (x0 : Plan) (x1 : Int) (r : Int) (h : g_R6_Length x0 x1 = some r) : Fun Try.prog 102 [.agg (planC x0), .int .i64 x1] (· = .int .i64 r) := by
  refine fn env_ok Try.func102 rfl rfl 20 rfl [.tmp 4] rfl [(0, .p (.agg (planC x0))), (1, .p (.int .i64 x1))] rfl rfl fun A hA => ?_
  unfold g_R6_Length at h
  refine rs env_ok ?_
  refine rl rfl ?_
  refine dwp_seq ?_
  refine jb (fun t12 : Bool => ⟨20, [(1, .p (.int .i64 x1)), (2, .lpb 0 0), (13, .p (.bool t12))], [(0, .box [.p (.slice 3 (x0.elems.map elemC)), .p (.slice 4 (x0.joins.map joinC)), .p (.slice 4 (x0.signals.map signalC)), .p (.slice 2 (x0.lines.map lineC)), .p (.int .i64 x0.top), .p (.int .i64 x0.brake), .p (.int .i64 x0.margin), .p (.int .i64 x0.throw), .p (.bool x0.hard)])], 1⟩) h (fun t12 h13 => ?_) (fun t12 h16 => ?_) <;> clear h
  · refine rg env_ok ?_
    refine rn 3 rfl ?_
    refine gs 7 h13 rfl rfl rfl (fun h14 => ?_) (fun h15 => ?_) <;> clear h13
    · refine rl rfl ?_
      have hr := Option.some.inj h14; subst hr
      exact npn (wk [(0, 0)] (free hA _) rfl rfl rfl (.cons rfl (.cons rfl (.cons rfl .nil))) (.cons rfl rfl .nil))
    · refine rn 3 rfl ?_
      refine sx rfl (o_len rfl rfl ?_)
      refine rl rfl ?_
      have hr := Option.some.inj h15; subst hr
      exact npn (wk [(0, 0)] (free hA _) rfl rfl rfl (.cons rfl (.cons rfl (.cons rfl .nil))) (.cons rfl rfl .nil))
  · refine cd rfl h16 (fun h17 => ?_) (fun h18 => ?_) <;> clear h16
    · refine rs env_ok ?_
      refine rl rfl ?_
      refine dwp_ret ?_
      refine thenD_r ?_
      have hr := Option.some.inj h17; subst hr
      exact er rfl Le.rfl
    · refine dwp_skip ?_
      refine thenD_n ?_
      refine rs env_ok ?_
      refine rn 3 rfl ?_
      obtain ⟨y21, ey21, h22⟩ := bd h18; clear h18
      refine sx rfl (o_idx ey21 rfl rfl rfl ?_)
      refine rl rfl ?_
      refine dwp_ret ?_
      have hr := Option.some.inj h22; subst hr
      exact er rfl Le.rfl

noncomputable def g_R6_long_l2 (x0 : Plan) (s424 : Int) : Option (Int ⊕ Bool) :=
  bif decide (s424 < (x0.elems.length : Int)) then (((idx x0.elems s424).bind fun y531 => bif (y531.kind != 4) then (idx x0.elems s424).bind fun y534 => some (decide (y534.length < x0.top)) else some false : Option (Bool))).bind fun (t529 : Bool) => bif t529 then some (.inr false) else some (.inl (wi64 (s424 + 1))) else some (.inr true)

noncomputable def g_R6_long_l1 (x0 : Plan) (s158 : Int) : Option (Int ⊕ Bool) :=
  bif decide (s158 < (x0.signals.length : Int)) then (idx x0.signals s158).bind fun y279 => (((g_R6_kind x0 y279.at_.elem).bind fun y289 => bif (y289 == 1) then (g_R6_Length x0 y279.at_.elem).bind fun y292 => some (decide (y292 < x0.margin)) else some false : Option (Bool))).bind fun (t287 : Bool) => bif t287 then some (.inr false) else some (.inl (wi64 (s158 + 1))) else (loopR (g_R6_long_l2 x0) 0).map .inr

noncomputable def g_R6_long (x0 : Plan) : Option Bool :=
  (g_R6_Stop x0.top x0.brake).bind fun y9 => bif decide (x0.margin < wi64 (x0.top + y9)) then some false else loopR (g_R6_long_l1 x0) 0

theorem f_R6_long (x0 : Plan) (r : Bool) (h : g_R6_long x0 = some r) : Fun Try.prog 82 [.agg (planC x0)] (· = .bool r) := by
  refine fn env_ok Try.func82 rfl rfl 68 rfl [.tmp 2] rfl [(0, .p (.agg (planC x0)))] rfl rfl fun A hA => ?_
  unfold g_R6_long at h
  refine rs env_ok ?_
  refine rl rfl ?_
  refine dwp_seq ?_
  refine dwp_seq ?_
  refine rgd env_ok mixed [0, 1, 2, 3, 4, 5, 6, 7, 8, 9, 10] 11 (by kernel_rfl) rfl rfl rfl ?_
  refine rnD 8 rfl ?_
  obtain ⟨y9, ey9, h10⟩ := bd h; clear h
  refine sxD rfl (o_callD (f_R6_Stop _ _ _ ey9) (.inl rfl) rfl rfl rfl ?_)
  refine rlD rfl ?_
  refine thenD_n ?_
  refine cd rfl h10 (fun h11 => ?_) (fun h12 => ?_) <;> clear h10
  · refine rs env_ok ?_
    refine rl rfl ?_
    refine dwp_ret ?_
    refine thenD_r ?_
    have hr := Option.some.inj h11; subst hr
    exact er rfl Le.rfl
  · refine dwp_skip ?_
    refine thenD_n ?_
    refine dwp_seq ?_
    refine rs env_ok ?_
    refine rl rfl ?_
    refine dwp_block ?_
    apply lp (a := r) (fun s158 : Int => ⟨68, [(1, .lpb 0 0), (3, .p (.int .i64 s158))], [(0, .box [.p (.slice 3 (x0.elems.map elemC)), .p (.slice 4 (x0.joins.map joinC)), .p (.slice 4 (x0.signals.map signalC)), .p (.slice 2 (x0.lines.map lineC)), .p (.int .i64 x0.top), .p (.int .i64 x0.brake), .p (.int .i64 x0.margin), .p (.int .i64 x0.throw), .p (.bool x0.hard)])], 1⟩) h12 <;> clear h12
    · exact wk [(0, 0)] (free hA _) rfl rfl rfl (.cons rfl (.cons rfl .nil)) (.cons rfl rfl .nil)
    intro s158 b251 h252
    unfold g_R6_long_l1 at h252
    refine dwp_seq ?_
    refine rs env_ok ?_
    refine rn 3 rfl ?_
    refine sx rfl (o_len rfl rfl ?_)
    refine rl rfl ?_
    refine cd rfl h252 (fun h255 => ?_) (fun h300 => ?_) <;> clear h252
    · refine dwp_skip ?_
      refine thenD_n ?_
      refine dwp_seq ?_
      refine dwp_block ?_
      refine rs env_ok ?_
      refine rn 3 rfl ?_
      obtain ⟨y279, ey279, h280⟩ := bd h255; clear h255
      refine sx rfl (o_idx ey279 rfl rfl rfl ?_)
      refine rl rfl ?_
      refine jb (fun t287 : Bool => ⟨68, [(1, .lpb 0 0), (3, .p (.int .i64 s158)), (42, .p (.bool t287))], [(0, .box [.p (.slice 3 (x0.elems.map elemC)), .p (.slice 4 (x0.joins.map joinC)), .p (.slice 4 (x0.signals.map signalC)), .p (.slice 2 (x0.lines.map lineC)), .p (.int .i64 x0.top), .p (.int .i64 x0.brake), .p (.int .i64 x0.margin), .p (.int .i64 x0.throw), .p (.bool x0.hard)])], 1⟩) h280 (fun t287 h288 => ?_) (fun t287 h295 => ?_) <;> clear h280
      · refine rgd env_ok mixed [0, 1, 2, 3, 4, 5, 6, 7, 8, 9, 10, 11] 12 (by kernel_rfl) rfl rfl rfl ?_
        refine rnD 2 rfl ?_
        obtain ⟨y289, ey289, h290⟩ := bd h288; clear h288
        refine sxD rfl (o_callD (f_R6_kind _ _ _ ey289) (.inl rfl) rfl rfl rfl ?_)
        refine rnD 2 rfl ?_
        refine gsD 35 h290 rfl rfl rfl (fun h291 => ?_) (fun h294 => ?_) <;> clear h290
        · refine rnD 2 rfl ?_
          obtain ⟨y292, ey292, h293⟩ := bd h291; clear h291
          refine sxD rfl (o_callD (f_R6_Length _ _ _ ey292) (.inl rfl) rfl rfl rfl ?_)
          refine rlD rfl ?_
          have hr := Option.some.inj h293; subst hr
          exact npn (wk [(0, 0)] (free hA _) rfl rfl rfl (.cons rfl (.cons rfl (.cons rfl .nil))) (.cons rfl rfl .nil))
        · refine rlD rfl ?_
          have hr := Option.some.inj h294; subst hr
          exact npn (wk [(0, 0)] (free hA _) rfl rfl rfl (.cons rfl (.cons rfl (.cons rfl .nil))) (.cons rfl rfl .nil))
      · refine cd rfl h295 (fun h296 => ?_) (fun h299 => ?_) <;> clear h295
        · refine rs env_ok ?_
          refine rl rfl ?_
          refine dwp_ret ?_
          refine inB_r ?_
          refine thenD_r ?_
          obtain ⟨a297, h298, rfl⟩ := mps h296; clear h296
          refine lpt ?_
          refine inB_r ?_
          refine thenD_r ?_
          have hr := Option.some.inj h298; subst hr
          exact er rfl Le.rfl
        · refine dwp_skip ?_
          refine inB_n ?_
          refine thenD_n ?_
          refine rg env_ok ?_
          refine rl rfl ?_
          have hr := Option.some.inj h299; subst hr
          exact lpn (wk [(0, 0)] (free hA _) rfl rfl rfl (.cons rfl (.cons rfl .nil)) (.cons rfl rfl .nil))
    · refine dwp_exit ?_
      refine thenD_x ?_
      obtain ⟨a301, h302, rfl⟩ := mp h300; clear h300
      refine lpx ?_
      refine inB_x ?_
      refine thenD_n ?_
      refine dwp_seq ?_
      refine rs env_ok ?_
      refine rl rfl ?_
      refine dwp_block ?_
      apply lp (a := a301) (fun s424 : Int => ⟨68, [(1, .lpb 0 0), (5, .p (.int .i64 s424))], [(0, .box [.p (.slice 3 (x0.elems.map elemC)), .p (.slice 4 (x0.joins.map joinC)), .p (.slice 4 (x0.signals.map signalC)), .p (.slice 2 (x0.lines.map lineC)), .p (.int .i64 x0.top), .p (.int .i64 x0.brake), .p (.int .i64 x0.margin), .p (.int .i64 x0.throw), .p (.bool x0.hard)])], 1⟩) h302 <;> clear h302
      · exact wk [(0, 0)] (free hA _) rfl rfl rfl (.cons rfl (.cons rfl .nil)) (.cons rfl rfl .nil)
      intro s424 b501 h502
      unfold g_R6_long_l2 at h502
      refine dwp_seq ?_
      refine rs env_ok ?_
      refine rn 3 rfl ?_
      refine sx rfl (o_len rfl rfl ?_)
      refine rl rfl ?_
      refine cd rfl h502 (fun h505 => ?_) (fun h542 => ?_) <;> clear h502
      · refine dwp_skip ?_
        refine thenD_n ?_
        refine dwp_seq ?_
        refine dwp_block ?_
        refine jb (fun t529 : Bool => ⟨68, [(1, .lpb 0 0), (5, .p (.int .i64 s424)), (67, .p (.bool t529))], [(0, .box [.p (.slice 3 (x0.elems.map elemC)), .p (.slice 4 (x0.joins.map joinC)), .p (.slice 4 (x0.signals.map signalC)), .p (.slice 2 (x0.lines.map lineC)), .p (.int .i64 x0.top), .p (.int .i64 x0.brake), .p (.int .i64 x0.margin), .p (.int .i64 x0.throw), .p (.bool x0.hard)])], 1⟩) h505 (fun t529 h530 => ?_) (fun t529 h537 => ?_) <;> clear h505
        · refine rgd env_ok mixed [0, 1, 2, 3, 4, 5, 6, 7, 8, 9, 10, 11, 12, 13, 14, 15, 16, 17] 18 (by kernel_rfl) rfl rfl rfl ?_
          refine rnD 3 rfl ?_
          obtain ⟨y531, ey531, h532⟩ := bd h530; clear h530
          refine sxD rfl (opD_plain rfl (o_idx ey531 rfl rfl rfl ?_))
          refine rnD 4 rfl ?_
          refine gsD 57 h532 rfl rfl rfl (fun h533 => ?_) (fun h536 => ?_) <;> clear h532
          · refine rnD 3 rfl ?_
            obtain ⟨y534, ey534, h535⟩ := bd h533; clear h533
            refine sxD rfl (opD_plain rfl (o_idx ey534 rfl rfl rfl ?_))
            refine rlD rfl ?_
            have hr := Option.some.inj h535; subst hr
            exact npn (wk [(0, 0)] (free hA _) rfl rfl rfl (.cons rfl (.cons rfl (.cons rfl .nil))) (.cons rfl rfl .nil))
          · refine rlD rfl ?_
            have hr := Option.some.inj h536; subst hr
            exact npn (wk [(0, 0)] (free hA _) rfl rfl rfl (.cons rfl (.cons rfl (.cons rfl .nil))) (.cons rfl rfl .nil))
        · refine cd rfl h537 (fun h538 => ?_) (fun h541 => ?_) <;> clear h537
          · refine rs env_ok ?_
            refine rl rfl ?_
            refine dwp_ret ?_
            refine inB_r ?_
            refine thenD_r ?_
            obtain ⟨a539, h540, rfl⟩ := mps h538; clear h538
            refine lpt ?_
            refine inB_r ?_
            refine thenD_r ?_
            have hr := Option.some.inj h540; subst hr
            exact er rfl Le.rfl
          · refine dwp_skip ?_
            refine inB_n ?_
            refine thenD_n ?_
            refine rg env_ok ?_
            refine rl rfl ?_
            have hr := Option.some.inj h541; subst hr
            exact lpn (wk [(0, 0)] (free hA _) rfl rfl rfl (.cons rfl (.cons rfl .nil)) (.cons rfl rfl .nil))
      · refine dwp_exit ?_
        refine thenD_x ?_
        obtain ⟨a543, h544, rfl⟩ := mps h542; clear h542
        refine lpx ?_
        refine inB_x ?_
        refine thenD_n ?_
        refine rs env_ok ?_
        refine rl rfl ?_
        refine dwp_ret ?_
        have hr := Option.some.inj h544; subst hr
        exact er rfl Le.rfl

end Go.E
/- Plain functions, and walks in step with them. Written by a program (gen.py). No condition. -/
set_option maxRecDepth 100000
namespace Go.E
open Go Go.RowKit Go.Proofs

noncomputable def g_R6_Check (x0 : Plan) : Option Int :=
  ((bif decide (40 < (x0.elems.length : Int)) then some true else bif decide (24 < (x0.signals.length : Int)) then some true else bif decide (4 < (x0.lines.length : Int)) then some true else some (decide (80 < (x0.joins.length : Int))) : Option (Bool))).bind fun (t24 : Bool) => bif t24 then some 3 else (g_R6_names x0).bind fun y37 => (g_R6_args x0).bind fun y96 => bif (!y96) then some 1 else (((g_R6_twice y37.1).bind fun y112 => bif y112 then some true else (g_R6_twice y37.2.1).bind fun y116 => bif y116 then some true else (g_R6_twice y37.2.2).bind fun y120 => some y120 : Option (Bool))).bind fun (t110 : Bool) => bif t110 then some 4 else (g_R6_joined x0).bind fun y127 => bif (!y127) then some 6 else (g_R6_signals x0).bind fun y133 => bif (!y133) then some 7 else (g_R6_lines x0).bind fun y139 => bif (!y139) then some 8 else (g_R6_long x0).bind fun y145 => bif (!y145) then some 9 else some 0

theorem f_R6_Check (x0 : Plan) (r : Int) (h : g_R6_Check x0 = some r) : Fun Try.prog 48 [.agg (planC x0)] (· = .int .i64 r) := by
  refine fn env_ok Try.func48 rfl rfl 65 rfl [.tmp 2] rfl [(0, .p (.agg (planC x0)))] rfl rfl fun A hA => ?_
  unfold g_R6_Check at h
  refine rs env_ok ?_
  refine rl rfl ?_
  refine dwp_seq ?_
  refine jb (fun t24 : Bool => ⟨65, [(1, .lpb 0 0), (27, .p (.bool t24))], [(0, .box [.p (.slice 3 (x0.elems.map elemC)), .p (.slice 4 (x0.joins.map joinC)), .p (.slice 4 (x0.signals.map signalC)), .p (.slice 2 (x0.lines.map lineC)), .p (.int .i64 x0.top), .p (.int .i64 x0.brake), .p (.int .i64 x0.margin), .p (.int .i64 x0.throw), .p (.bool x0.hard)])], 1⟩) h (fun t24 h25 => ?_) (fun t24 h32 => ?_) <;> clear h
  · refine rg env_ok ?_
    refine rn 2 rfl ?_
    refine sx rfl (o_len rfl rfl ?_)
    refine rn 2 rfl ?_
    refine gs 10 h25 rfl rfl rfl (fun h26 => ?_) (fun h27 => ?_) <;> clear h25
    · refine rl rfl ?_
      have hr := Option.some.inj h26; subst hr
      exact npn (wk [(0, 0)] (free hA _) rfl rfl rfl (.cons rfl (.cons rfl .nil)) (.cons rfl rfl .nil))
    · refine rn 2 rfl ?_
      refine sx rfl (o_len rfl rfl ?_)
      refine rn 3 rfl ?_
      refine gs 16 h27 rfl rfl rfl (fun h28 => ?_) (fun h29 => ?_) <;> clear h27
      · refine rl rfl ?_
        have hr := Option.some.inj h28; subst hr
        exact npn (wk [(0, 0)] (free hA _) rfl rfl rfl (.cons rfl (.cons rfl .nil)) (.cons rfl rfl .nil))
      · refine rn 2 rfl ?_
        refine sx rfl (o_len rfl rfl ?_)
        refine rn 3 rfl ?_
        refine gs 22 h29 rfl rfl rfl (fun h30 => ?_) (fun h31 => ?_) <;> clear h29
        · refine rl rfl ?_
          have hr := Option.some.inj h30; subst hr
          exact npn (wk [(0, 0)] (free hA _) rfl rfl rfl (.cons rfl (.cons rfl .nil)) (.cons rfl rfl .nil))
        · refine rn 2 rfl ?_
          refine sx rfl (o_len rfl rfl ?_)
          refine rl rfl ?_
          have hr := Option.some.inj h31; subst hr
          exact npn (wk [(0, 0)] (free hA _) rfl rfl rfl (.cons rfl (.cons rfl .nil)) (.cons rfl rfl .nil))
  · refine cd rfl h32 (fun h33 => ?_) (fun h34 => ?_) <;> clear h32
    · refine rs env_ok ?_
      refine rl rfl ?_
      refine dwp_ret ?_
      refine thenD_r ?_
      have hr := Option.some.inj h33; subst hr
      exact er rfl Le.rfl
    · refine dwp_skip ?_
      refine thenD_n ?_
      refine rs env_ok ?_
      refine rn 1 rfl ?_
      obtain ⟨y37, ey37, h38⟩ := bd h34; clear h34
      refine sx rfl (o_call (f_R6_names _ _ ey37) (.inr rfl) rfl rfl rfl ?_)
      refine rl rfl ?_
      refine dwp_seq ?_
      refine dwp_block ?_
      refine rs env_ok ?_
      refine rn 1 rfl ?_
      obtain ⟨y96, ey96, h97⟩ := bd h38; clear h38
      refine sx rfl (o_call (f_R6_args _ _ ey96) (.inl rfl) rfl rfl rfl ?_)
      refine rl rfl ?_
      refine cd rfl h97 (fun h98 => ?_) (fun h99 => ?_) <;> clear h97
      · refine rs env_ok ?_
        refine rl rfl ?_
        refine dwp_ret ?_
        refine inB_r ?_
        refine thenD_r ?_
        have hr := Option.some.inj h98; subst hr
        exact er rfl Le.rfl
      · refine jb (fun t110 : Bool => ⟨65, [(1, .lpb 0 0), (38, .p (.bool t110))], [(0, .box [.p (.slice 3 (x0.elems.map elemC)), .p (.slice 4 (x0.joins.map joinC)), .p (.slice 4 (x0.signals.map signalC)), .p (.slice 2 (x0.lines.map lineC)), .p (.int .i64 x0.top), .p (.int .i64 x0.brake), .p (.int .i64 x0.margin), .p (.int .i64 x0.throw), .p (.bool x0.hard)])], 1⟩) h99 (fun t110 h111 => ?_) (fun t110 h122 => ?_) <;> clear h99
        · refine rg env_ok ?_
          refine rn 1 rfl ?_
          obtain ⟨y112, ey112, h113⟩ := bd h111; clear h111
          refine sx rfl (o_call (f_R6_twice _ _ ey112) (.inl rfl) rfl rfl rfl ?_)
          refine rn 1 rfl ?_
          refine gs 41 h113 rfl rfl rfl (fun h114 => ?_) (fun h115 => ?_) <;> clear h113
          · refine rl rfl ?_
            have hr := Option.some.inj h114; subst hr
            exact npn (wk [(0, 0)] (free hA _) rfl rfl rfl (.cons rfl (.cons rfl .nil)) (.cons rfl rfl .nil))
          · refine rn 1 rfl ?_
            obtain ⟨y116, ey116, h117⟩ := bd h115; clear h115
            refine sx rfl (o_call (f_R6_twice _ _ ey116) (.inl rfl) rfl rfl rfl ?_)
            refine rn 2 rfl ?_
            refine gs 45 h117 rfl rfl rfl (fun h118 => ?_) (fun h119 => ?_) <;> clear h117
            · refine rl rfl ?_
              have hr := Option.some.inj h118; subst hr
              exact npn (wk [(0, 0)] (free hA _) rfl rfl rfl (.cons rfl (.cons rfl .nil)) (.cons rfl rfl .nil))
            · refine rn 1 rfl ?_
              obtain ⟨y120, ey120, h121⟩ := bd h119; clear h119
              refine sx rfl (o_call (f_R6_twice _ _ ey120) (.inl rfl) rfl rfl rfl ?_)
              refine rl rfl ?_
              have hr := Option.some.inj h121; subst hr
              exact npn (wk [(0, 0)] (free hA _) rfl rfl rfl (.cons rfl (.cons rfl .nil)) (.cons rfl rfl .nil))
        · refine cd rfl h122 (fun h123 => ?_) (fun h124 => ?_) <;> clear h122
          · refine rs env_ok ?_
            refine rl rfl ?_
            refine dwp_ret ?_
            refine inB_r ?_
            refine thenD_r ?_
            have hr := Option.some.inj h123; subst hr
            exact er rfl Le.rfl
          · refine rs env_ok ?_
            refine rn 1 rfl ?_
            obtain ⟨y127, ey127, h128⟩ := bd h124; clear h124
            refine sx rfl (o_call (f_R6_joined _ _ ey127) (.inl rfl) rfl rfl rfl ?_)
            refine rl rfl ?_
            refine cd rfl h128 (fun h129 => ?_) (fun h130 => ?_) <;> clear h128
            · refine rs env_ok ?_
              refine rl rfl ?_
              refine dwp_ret ?_
              refine inB_r ?_
              refine thenD_r ?_
              have hr := Option.some.inj h129; subst hr
              exact er rfl Le.rfl
            · refine rs env_ok ?_
              refine rn 1 rfl ?_
              obtain ⟨y133, ey133, h134⟩ := bd h130; clear h130
              refine sx rfl (o_call (f_R6_signals _ _ ey133) (.inl rfl) rfl rfl rfl ?_)
              refine rl rfl ?_
              refine cd rfl h134 (fun h135 => ?_) (fun h136 => ?_) <;> clear h134
              · refine rs env_ok ?_
                refine rl rfl ?_
                refine dwp_ret ?_
                refine inB_r ?_
                refine thenD_r ?_
                have hr := Option.some.inj h135; subst hr
                exact er rfl Le.rfl
              · refine rs env_ok ?_
                refine rn 1 rfl ?_
                obtain ⟨y139, ey139, h140⟩ := bd h136; clear h136
                refine sx rfl (o_call (f_R6_lines _ _ ey139) (.inl rfl) rfl rfl rfl ?_)
                refine rl rfl ?_
                refine cd rfl h140 (fun h141 => ?_) (fun h142 => ?_) <;> clear h140
                · refine rs env_ok ?_
                  refine rl rfl ?_
                  refine dwp_ret ?_
                  refine inB_r ?_
                  refine thenD_r ?_
                  have hr := Option.some.inj h141; subst hr
                  exact er rfl Le.rfl
                · refine rs env_ok ?_
                  refine rn 1 rfl ?_
                  obtain ⟨y145, ey145, h146⟩ := bd h142; clear h142
                  refine sx rfl (o_call (f_R6_long _ _ ey145) (.inl rfl) rfl rfl rfl ?_)
                  refine rl rfl ?_
                  refine cd rfl h146 (fun h147 => ?_) (fun h148 => ?_) <;> clear h146
                  · refine rs env_ok ?_
                    refine rl rfl ?_
                    refine dwp_ret ?_
                    refine inB_r ?_
                    refine thenD_r ?_
                    have hr := Option.some.inj h147; subst hr
                    exact er rfl Le.rfl
                  · refine dwp_skip ?_
                    refine inB_n ?_
                    refine thenD_n ?_
                    refine rs env_ok ?_
                    refine rl rfl ?_
                    refine dwp_ret ?_
                    have hr := Option.some.inj h148; subst hr
                    exact er rfl Le.rfl

noncomputable def g_R6_Fine (x0 : Plan) : Option Bool :=
  (((g_R6_Few x0).bind fun y9 => bif y9 then (g_R6_Check x0).bind fun y12 => some (y12 == 0) else some false : Option (Bool))).bind fun (t7 : Bool) => some t7

theorem f_R6_Fine (x0 : Plan) (r : Bool) (h : g_R6_Fine x0 = some r) : Fun Try.prog 15 [.agg (planC x0)] (· = .bool r) := by
  refine fn env_ok Try.func15 rfl rfl 10 rfl [.tmp 2] rfl [(0, .p (.agg (planC x0)))] rfl rfl fun A hA => ?_
  unfold g_R6_Fine at h
  refine rs env_ok ?_
  refine rl rfl ?_
  refine jb (fun t7 : Bool => ⟨10, [(2, .p (.bool t7))], [], 0⟩) h (fun t7 h8 => ?_) (fun t7 h15 => ?_) <;> clear h
  · refine rg env_ok ?_
    refine rn 1 rfl ?_
    obtain ⟨y9, ey9, h10⟩ := bd h8; clear h8
    refine sx rfl (o_call (f_R6_Few _ _ ey9) (.inl rfl) rfl rfl rfl ?_)
    refine rn 1 rfl ?_
    refine gs 5 h10 rfl rfl rfl (fun h11 => ?_) (fun h14 => ?_) <;> clear h10
    · refine rn 1 rfl ?_
      obtain ⟨y12, ey12, h13⟩ := bd h11; clear h11
      refine sx rfl (o_call (f_R6_Check _ _ ey12) (.inl rfl) rfl rfl rfl ?_)
      refine rl rfl ?_
      have hr := Option.some.inj h13; subst hr
      exact npn (wk [] (free hA _) rfl rfl rfl (.cons rfl .nil) .nil)
    · refine rl rfl ?_
      have hr := Option.some.inj h14; subst hr
      exact npn (wk [] (free hA _) rfl rfl rfl (.cons rfl .nil) .nil)
  · refine dwp_ret ?_
    have hr := Option.some.inj h15; subst hr
    exact er rfl Le.rfl

noncomputable def g_word_letter (x0 : Int) : Option Bool :=
  ((bif decide (97 ≤ x0) then bif decide (x0 ≤ 122) then some true else bif decide (65 ≤ x0) then some (decide (x0 ≤ 90)) else some false else bif decide (65 ≤ x0) then some (decide (x0 ≤ 90)) else some false : Option (Bool))).bind fun (t9 : Bool) => some t9

theorem f_word_letter (x0 : Int) (r : Bool) (h : g_word_letter x0 = some r) : Fun Try.prog 146 [.int .u8 x0] (· = .bool r) := by
  refine fn env_ok Try.func146 rfl rfl 17 rfl [.tmp 2] rfl [(0, .p (.int .u8 x0))] rfl rfl fun A hA => ?_
  unfold g_word_letter at h
  refine rs env_ok ?_
  refine rl rfl ?_
  refine jb (fun t9 : Bool => ⟨17, [(2, .p (.bool t9))], [], 0⟩) h (fun t9 h10 => ?_) (fun t9 h19 => ?_) <;> clear h
  · refine rg env_ok ?_
    refine rn 3 rfl ?_
    refine gs 5 h10 rfl rfl rfl (fun h11 => ?_) (fun h16 => ?_) <;> clear h10
    · refine rn 4 rfl ?_
      refine gs 9 h11 rfl rfl rfl (fun h12 => ?_) (fun h13 => ?_) <;> clear h11
      · refine rl rfl ?_
        have hr := Option.some.inj h12; subst hr
        exact npn (wk [] (free hA _) rfl rfl rfl (.cons rfl .nil) .nil)
      · refine rn 3 rfl ?_
        refine gs 12 h13 rfl rfl rfl (fun h14 => ?_) (fun h15 => ?_) <;> clear h13
        · refine rl rfl ?_
          have hr := Option.some.inj h14; subst hr
          exact npn (wk [] (free hA _) rfl rfl rfl (.cons rfl .nil) .nil)
        · refine rl rfl ?_
          have hr := Option.some.inj h15; subst hr
          exact npn (wk [] (free hA _) rfl rfl rfl (.cons rfl .nil) .nil)
    · refine rn 7 rfl ?_
      refine gs 12 h16 rfl rfl rfl (fun h17 => ?_) (fun h18 => ?_) <;> clear h16
      · refine rl rfl ?_
        have hr := Option.some.inj h17; subst hr
        exact npn (wk [] (free hA _) rfl rfl rfl (.cons rfl .nil) .nil)
      · refine rl rfl ?_
        have hr := Option.some.inj h18; subst hr
        exact npn (wk [] (free hA _) rfl rfl rfl (.cons rfl .nil) .nil)
  · refine dwp_ret ?_
    have hr := Option.some.inj h19; subst hr
    exact er rfl Le.rfl

noncomputable def g_word_Name_l1 (x0 : ByteArray) (s236 : Int) : Option (Int ⊕ Bool) :=
  bif decide (s236 < (x0.size : Int)) then (((idxS x0 s236).bind fun y409 => (g_word_letter (y409.toNat : Int)).bind fun y411 => bif (!y411) then (idxS x0 s236).bind fun y414 => bif decide ((y414.toNat : Int) < 48) then some true else (idxS x0 s236).bind fun y418 => some (decide (57 < (y418.toNat : Int))) else some false : Option (Bool))).bind fun (t407 : Bool) => bif t407 then some (.inr false) else some (.inl (wi64 (s236 + 1))) else some (.inr true)

noncomputable def g_word_Name (x0 : ByteArray) : Option Bool :=
  ((bif (x0.toList == ByteArray.empty.toList) then some true else bif decide (8 < (x0.size : Int)) then some true else (idxS x0 0).bind fun y36 => (g_word_letter (y36.toNat : Int)).bind fun y38 => some (!y38) : Option (Bool))).bind fun (t30 : Bool) => bif t30 then some false else loopR (g_word_Name_l1 x0) 1

theorem f_word_Name (x0 : ByteArray) (r : Bool) (h : g_word_Name x0 = some r) : Fun Try.prog 133 [.str x0] (· = .bool r) := by
  refine fn env_ok Try.func133 rfl rfl 40 rfl [.tmp 2] rfl [(0, .p (.str x0))] rfl rfl fun A hA => ?_
  unfold g_word_Name at h
  refine rs env_ok ?_
  refine rl rfl ?_
  refine dwp_seq ?_
  refine jb (fun t30 : Bool => ⟨40, [(0, .p (.str x0)), (16, .p (.bool t30))], [], 0⟩) h (fun t30 h31 => ?_) (fun t30 h40 => ?_) <;> clear h
  · refine rg env_ok ?_
    refine rn 3 rfl ?_
    refine gs 6 h31 rfl rfl rfl (fun h32 => ?_) (fun h33 => ?_) <;> clear h31
    · refine rl rfl ?_
      have hr := Option.some.inj h32; subst hr
      exact npn (wk [] (free hA _) rfl rfl rfl (.cons rfl (.cons rfl .nil)) .nil)
    · refine rn 5 rfl ?_
      refine gs 11 h33 rfl rfl rfl (fun h34 => ?_) (fun h35 => ?_) <;> clear h33
      · refine rl rfl ?_
        have hr := Option.some.inj h34; subst hr
        exact npn (wk [] (free hA _) rfl rfl rfl (.cons rfl (.cons rfl .nil)) .nil)
      · refine rn 1 rfl ?_
        obtain ⟨y36, ey36, h37⟩ := bd h35; clear h35
        refine sx rfl (o_idxS ey36 rfl rfl rfl ?_)
        obtain ⟨y38, ey38, h39⟩ := bd h37; clear h37
        refine sx rfl (o_call (f_word_letter _ _ ey38) (.inl rfl) rfl rfl rfl ?_)
        refine rl rfl ?_
        have hr := Option.some.inj h39; subst hr
        exact npn (wk [] (free hA _) rfl rfl rfl (.cons rfl (.cons rfl .nil)) .nil)
  · refine cd rfl h40 (fun h41 => ?_) (fun h42 => ?_) <;> clear h40
    · refine rs env_ok ?_
      refine rl rfl ?_
      refine dwp_ret ?_
      refine thenD_r ?_
      have hr := Option.some.inj h41; subst hr
      exact er rfl Le.rfl
    · refine dwp_skip ?_
      refine thenD_n ?_
      refine dwp_seq ?_
      refine rs env_ok ?_
      refine rl rfl ?_
      refine dwp_block ?_
      apply lp (a := r) (fun s236 : Int => ⟨40, [(0, .p (.str x0)), (3, .p (.int .i64 s236))], [], 0⟩) h42 <;> clear h42
      · exact wk [] (free hA _) rfl rfl rfl (.cons rfl (.cons rfl .nil)) .nil
      intro s236 b361 h362
      unfold g_word_Name_l1 at h362
      refine dwp_seq ?_
      refine rs env_ok ?_
      refine rl rfl ?_
      refine cd rfl h362 (fun h365 => ?_) (fun h426 => ?_) <;> clear h362
      · refine dwp_skip ?_
        refine thenD_n ?_
        refine dwp_seq ?_
        refine dwp_block ?_
        refine jb (fun t407 : Bool => ⟨40, [(0, .p (.str x0)), (3, .p (.int .i64 s236)), (39, .p (.bool t407))], [], 0⟩) h365 (fun t407 h408 => ?_) (fun t407 h421 => ?_) <;> clear h365
        · refine rg env_ok ?_
          refine rn 2 rfl ?_
          obtain ⟨y409, ey409, h410⟩ := bd h408; clear h408
          refine sx rfl (o_idxS ey409 rfl rfl rfl ?_)
          obtain ⟨y411, ey411, h412⟩ := bd h410; clear h410
          refine sx rfl (o_call (f_word_letter _ _ ey411) (.inl rfl) rfl rfl rfl ?_)
          refine rn 2 rfl ?_
          refine gs 28 h412 rfl rfl rfl (fun h413 => ?_) (fun h420 => ?_) <;> clear h412
          · refine rn 2 rfl ?_
            obtain ⟨y414, ey414, h415⟩ := bd h413; clear h413
            refine sx rfl (o_idxS ey414 rfl rfl rfl ?_)
            refine rn 2 rfl ?_
            refine gs 33 h415 rfl rfl rfl (fun h416 => ?_) (fun h417 => ?_) <;> clear h415
            · refine rl rfl ?_
              have hr := Option.some.inj h416; subst hr
              exact npn (wk [] (free hA _) rfl rfl rfl (.cons rfl (.cons rfl (.cons rfl .nil))) .nil)
            · refine rn 2 rfl ?_
              obtain ⟨y418, ey418, h419⟩ := bd h417; clear h417
              refine sx rfl (o_idxS ey418 rfl rfl rfl ?_)
              refine rl rfl ?_
              have hr := Option.some.inj h419; subst hr
              exact npn (wk [] (free hA _) rfl rfl rfl (.cons rfl (.cons rfl (.cons rfl .nil))) .nil)
          · refine rl rfl ?_
            have hr := Option.some.inj h420; subst hr
            exact npn (wk [] (free hA _) rfl rfl rfl (.cons rfl (.cons rfl (.cons rfl .nil))) .nil)
        · refine cd rfl h421 (fun h422 => ?_) (fun h425 => ?_) <;> clear h421
          · refine rs env_ok ?_
            refine rl rfl ?_
            refine dwp_ret ?_
            refine inB_r ?_
            refine thenD_r ?_
            obtain ⟨a423, h424, rfl⟩ := mps h422; clear h422
            refine lpt ?_
            refine inB_r ?_
            refine thenD_r ?_
            have hr := Option.some.inj h424; subst hr
            exact er rfl Le.rfl
          · refine dwp_skip ?_
            refine inB_n ?_
            refine thenD_n ?_
            refine rg env_ok ?_
            refine rl rfl ?_
            have hr := Option.some.inj h425; subst hr
            exact lpn (wk [] (free hA _) rfl rfl rfl (.cons rfl (.cons rfl .nil)) .nil)
      · refine dwp_exit ?_
        refine thenD_x ?_
        obtain ⟨a427, h428, rfl⟩ := mps h426; clear h426
        refine lpx ?_
        refine inB_x ?_
        refine thenD_n ?_
        refine rs env_ok ?_
        refine rl rfl ?_
        refine dwp_ret ?_
        have hr := Option.some.inj h428; subst hr
        exact er rfl Le.rfl

noncomputable def g_plan_Ends (x0 : Int) : Option Int :=
  bif (x0 == 1) then some 2 else bif (x0 == 2) then some 3 else bif (x0 == 3) then some 4 else bif (x0 == 4) then some 1 else some 0

theorem f_plan_Ends (x0 : Int) (r : Int) (h : g_plan_Ends x0 = some r) : Fun Try.prog 134 [.int .i64 x0] (· = .int .i64 r) := by
  refine fn env_ok Try.func134 rfl rfl 12 rfl [.tmp 2] rfl [(0, .p (.int .i64 x0))] rfl rfl fun A hA => ?_
  unfold g_plan_Ends at h
  refine rs env_ok ?_
  refine rl rfl ?_
  refine dwp_seq ?_
  refine rs env_ok ?_
  refine rl rfl ?_
  refine dwp_block ?_
  refine rs env_ok ?_
  refine rl rfl ?_
  refine cd rfl h (fun h9 => ?_) (fun h10 => ?_) <;> clear h
  · refine rs env_ok ?_
    refine rl rfl ?_
    refine dwp_ret ?_
    refine inB_r ?_
    refine thenD_r ?_
    have hr := Option.some.inj h9; subst hr
    exact er rfl Le.rfl
  · refine rs env_ok ?_
    refine rl rfl ?_
    refine cd rfl h10 (fun h11 => ?_) (fun h12 => ?_) <;> clear h10
    · refine rs env_ok ?_
      refine rl rfl ?_
      refine dwp_ret ?_
      refine inB_r ?_
      refine thenD_r ?_
      have hr := Option.some.inj h11; subst hr
      exact er rfl Le.rfl
    · refine rs env_ok ?_
      refine rl rfl ?_
      refine cd rfl h12 (fun h13 => ?_) (fun h14 => ?_) <;> clear h12
      · refine rs env_ok ?_
        refine rl rfl ?_
        refine dwp_ret ?_
        refine inB_r ?_
        refine thenD_r ?_
        have hr := Option.some.inj h13; subst hr
        exact er rfl Le.rfl
      · refine rs env_ok ?_
        refine rl rfl ?_
        refine cd rfl h14 (fun h15 => ?_) (fun h16 => ?_) <;> clear h14
        · refine rs env_ok ?_
          refine rl rfl ?_
          refine dwp_ret ?_
          refine inB_r ?_
          refine thenD_r ?_
          have hr := Option.some.inj h15; subst hr
          exact er rfl Le.rfl
        · refine dwp_skip ?_
          refine inB_n ?_
          refine thenD_n ?_
          refine rs env_ok ?_
          refine rl rfl ?_
          refine dwp_ret ?_
          have hr := Option.some.inj h16; subst hr
          exact er rfl Le.rfl

noncomputable def g_plan_numbers_l3 (x0 : Plan) (s850 : Int) : Option (Int ⊕ Bool) :=
  bif decide (s850 < (x0.lines.length : Int)) then (idx x0.lines s850).bind fun y916 => (g_word_Name y916.name).bind fun y920 => bif (!y920) then some (.inr false) else some (.inl (wi64 (s850 + 1))) else some (.inr true)

noncomputable def g_plan_numbers_l2 (x0 : Plan) (s692 : Int) : Option (Int ⊕ Bool) :=
  bif decide (s692 < (x0.signals.length : Int)) then (idx x0.signals s692).bind fun y758 => (g_word_Name y758.name).bind fun y762 => bif (!y762) then some (.inr false) else some (.inl (wi64 (s692 + 1))) else (loopR (g_plan_numbers_l3 x0) 0).map .inr

noncomputable def g_plan_numbers_l1 (x0 : Plan) (s344 : Int) : Option (Int ⊕ Bool) :=
  bif decide (s344 < (x0.elems.length : Int)) then seqR (((idx x0.elems s344).bind fun y563 => (((g_word_Name y563.name).bind fun y573 => bif (!y573) then some true else (g_plan_Ends y563.kind).bind fun y577 => some (y577 == 0) : Option (Bool))).bind fun (t571 : Bool) => bif t571 then some (.inr (.inr false)) else bif (y563.kind == 4) then bif (y563.length != 0) then some (.inr (.inr false)) else some (.inl ()) else ((bif decide (y563.length < 1) then some true else some (decide (4000 < y563.length)) : Option (Bool))).bind fun (t598 : Bool) => bif t598 then some (.inr (.inr false)) else some (.inl ()) : Option (Unit ⊕ (Int ⊕ Bool)))) fun (t558 : Unit) => some (.inl (wi64 (s344 + 1))) else (loopR (g_plan_numbers_l2 x0) 0).map .inr

noncomputable def g_plan_numbers (x0 : Plan) : Option Bool :=
  ((bif decide (x0.top < 1) then some true else bif decide (60 < x0.top) then some true else bif decide (x0.brake < 1) then some true else bif decide (10 < x0.brake) then some true else bif decide (x0.margin < 1) then some true else bif decide (4000 < x0.margin) then some true else bif decide (x0.throw < 1) then some true else bif decide (20 < x0.throw) then some true else some ((x0.elems.length : Int) == 0) : Option (Bool))).bind fun (t54 : Bool) => bif t54 then some false else loopR (g_plan_numbers_l1 x0) 0

theorem f_plan_numbers (x0 : Plan) (r : Bool) (h : g_plan_numbers x0 = some r) : Fun Try.prog 103 [.agg (planC x0)] (· = .bool r) := by
  refine fn env_ok Try.func103 rfl rfl 112 rfl [.tmp 2] rfl [(0, .p (.agg (planC x0)))] rfl rfl fun A hA => ?_
  unfold g_plan_numbers at h
  refine rs env_ok ?_
  refine rl rfl ?_
  refine sc ?_
  refine dwp_seq ?_
  refine jb (fun t54 : Bool => ⟨112, [(1, .lpb 0 0), (52, .p (.bool t54))], [(0, .box [.p (.slice 3 (x0.elems.map elemC)), .p (.slice 4 (x0.joins.map joinC)), .p (.slice 4 (x0.signals.map signalC)), .p (.slice 2 (x0.lines.map lineC)), .p (.int .i64 x0.top), .p (.int .i64 x0.brake), .p (.int .i64 x0.margin), .p (.int .i64 x0.throw), .p (.bool x0.hard)])], 1⟩) h (fun t54 h55 => ?_) (fun t54 h72 => ?_) <;> clear h
  · refine rg env_ok ?_
    refine rn 4 rfl ?_
    refine gs 12 h55 rfl rfl rfl (fun h56 => ?_) (fun h57 => ?_) <;> clear h55
    · refine rl rfl ?_
      have hr := Option.some.inj h56; subst hr
      exact npn (wk [(0, 0)] (free hA _) rfl rfl rfl (.cons rfl (.cons rfl .nil)) (.cons rfl rfl .nil))
    · refine rn 5 rfl ?_
      refine gs 17 h57 rfl rfl rfl (fun h58 => ?_) (fun h59 => ?_) <;> clear h57
      · refine rl rfl ?_
        have hr := Option.some.inj h58; subst hr
        exact npn (wk [(0, 0)] (free hA _) rfl rfl rfl (.cons rfl (.cons rfl .nil)) (.cons rfl rfl .nil))
      · refine rn 5 rfl ?_
        refine gs 22 h59 rfl rfl rfl (fun h60 => ?_) (fun h61 => ?_) <;> clear h59
        · refine rl rfl ?_
          have hr := Option.some.inj h60; subst hr
          exact npn (wk [(0, 0)] (free hA _) rfl rfl rfl (.cons rfl (.cons rfl .nil)) (.cons rfl rfl .nil))
        · refine rn 5 rfl ?_
          refine gs 27 h61 rfl rfl rfl (fun h62 => ?_) (fun h63 => ?_) <;> clear h61
          · refine rl rfl ?_
            have hr := Option.some.inj h62; subst hr
            exact npn (wk [(0, 0)] (free hA _) rfl rfl rfl (.cons rfl (.cons rfl .nil)) (.cons rfl rfl .nil))
          · refine rn 5 rfl ?_
            refine gs 32 h63 rfl rfl rfl (fun h64 => ?_) (fun h65 => ?_) <;> clear h63
            · refine rl rfl ?_
              have hr := Option.some.inj h64; subst hr
              exact npn (wk [(0, 0)] (free hA _) rfl rfl rfl (.cons rfl (.cons rfl .nil)) (.cons rfl rfl .nil))
            · refine rn 5 rfl ?_
              refine gs 37 h65 rfl rfl rfl (fun h66 => ?_) (fun h67 => ?_) <;> clear h65
              · refine rl rfl ?_
                have hr := Option.some.inj h66; subst hr
                exact npn (wk [(0, 0)] (free hA _) rfl rfl rfl (.cons rfl (.cons rfl .nil)) (.cons rfl rfl .nil))
              · refine rn 5 rfl ?_
                refine gs 42 h67 rfl rfl rfl (fun h68 => ?_) (fun h69 => ?_) <;> clear h67
                · refine rl rfl ?_
                  have hr := Option.some.inj h68; subst hr
                  exact npn (wk [(0, 0)] (free hA _) rfl rfl rfl (.cons rfl (.cons rfl .nil)) (.cons rfl rfl .nil))
                · refine rn 5 rfl ?_
                  refine gs 47 h69 rfl rfl rfl (fun h70 => ?_) (fun h71 => ?_) <;> clear h69
                  · refine rl rfl ?_
                    have hr := Option.some.inj h70; subst hr
                    exact npn (wk [(0, 0)] (free hA _) rfl rfl rfl (.cons rfl (.cons rfl .nil)) (.cons rfl rfl .nil))
                  · refine rn 2 rfl ?_
                    refine sx rfl (o_len rfl rfl ?_)
                    refine rl rfl ?_
                    have hr := Option.some.inj h71; subst hr
                    exact npn (wk [(0, 0)] (free hA _) rfl rfl rfl (.cons rfl (.cons rfl .nil)) (.cons rfl rfl .nil))
  · refine cd rfl h72 (fun h73 => ?_) (fun h74 => ?_) <;> clear h72
    · refine rs env_ok ?_
      refine rl rfl ?_
      refine dwp_ret ?_
      refine thenD_r ?_
      refine sc_r ?_
      have hr := Option.some.inj h73; subst hr
      exact er rfl Le.rfl
    · refine dwp_skip ?_
      refine thenD_n ?_
      refine dwp_seq ?_
      refine dwp_label ?_
      refine thenD_n ?_
      refine dwp_seq ?_
      refine rs env_ok ?_
      refine rn 2 rfl ?_
      refine sx rfl (o_len rfl rfl ?_)
      refine rl rfl ?_
      refine dwp_block ?_
      apply lp (a := r) (fun s344 : Int => ⟨112, [(1, .lpb 0 0), (54, .p (.slice 3 (x0.elems.map elemC))), (55, .p (.int .i64 (x0.elems.length : Int))), (56, .p (.int .i64 s344))], [(0, .box [.p (.slice 3 (x0.elems.map elemC)), .p (.slice 4 (x0.joins.map joinC)), .p (.slice 4 (x0.signals.map signalC)), .p (.slice 2 (x0.lines.map lineC)), .p (.int .i64 x0.top), .p (.int .i64 x0.brake), .p (.int .i64 x0.margin), .p (.int .i64 x0.throw), .p (.bool x0.hard)])], 1⟩) h74 <;> clear h74
      · exact wk [(0, 0)] (free hA _) rfl rfl rfl (.cons rfl (.cons rfl (.cons rfl (.cons rfl .nil)))) (.cons rfl rfl .nil)
      intro s344 b517 h518
      unfold g_plan_numbers_l1 at h518
      refine rs env_ok ?_
      refine rl rfl ?_
      refine dwp_seq ?_
      refine cd rfl h518 (fun h521 => ?_) (fun h610 => ?_) <;> clear h518
      · refine dwp_skip ?_
        refine thenD_n ?_
        apply jn (a := b517) (fun t558 : Unit => ⟨112, [(1, .lpb 0 0), (54, .p (.slice 3 (x0.elems.map elemC))), (55, .p (.int .i64 (x0.elems.length : Int))), (56, .p (.int .i64 s344))], [(0, .box [.p (.slice 3 (x0.elems.map elemC)), .p (.slice 4 (x0.joins.map joinC)), .p (.slice 4 (x0.signals.map signalC)), .p (.slice 2 (x0.lines.map lineC)), .p (.int .i64 x0.top), .p (.int .i64 x0.brake), .p (.int .i64 x0.margin), .p (.int .i64 x0.throw), .p (.bool x0.hard)])], 1⟩) h521 <;> clear h521
        · intro b559 h560
          refine dwp_block ?_
          refine rs env_ok ?_
          obtain ⟨y563, ey563, h564⟩ := bd h560; clear h560
          refine sx rfl (o_idx ey563 rfl rfl rfl ?_)
          refine rl rfl ?_
          refine dwp_block ?_
          refine jb (fun t571 : Bool => ⟨112, [(1, .lpb 0 0), (4, .lpb 1 0), (54, .p (.slice 3 (x0.elems.map elemC))), (55, .p (.int .i64 (x0.elems.length : Int))), (56, .p (.int .i64 s344)), (60, .p (.bool t571))], [(0, .box [.p (.slice 3 (x0.elems.map elemC)), .p (.slice 4 (x0.joins.map joinC)), .p (.slice 4 (x0.signals.map signalC)), .p (.slice 2 (x0.lines.map lineC)), .p (.int .i64 x0.top), .p (.int .i64 x0.brake), .p (.int .i64 x0.margin), .p (.int .i64 x0.throw), .p (.bool x0.hard)]), (1, .box [.p (.str y563.name), .p (.int .i64 y563.kind), .p (.int .i64 y563.length)])], 2⟩) h564 (fun t571 h572 => ?_) (fun t571 h579 => ?_) <;> clear h564
          · refine rg env_ok ?_
            refine rn 2 rfl ?_
            obtain ⟨y573, ey573, h574⟩ := bd h572; clear h572
            refine sx rfl (o_call (f_word_Name _ _ ey573) (.inl rfl) rfl rfl rfl ?_)
            refine rn 2 rfl ?_
            refine gs 65 h574 rfl rfl rfl (fun h575 => ?_) (fun h576 => ?_) <;> clear h574
            · refine rl rfl ?_
              have hr := Option.some.inj h575; subst hr
              exact npn (wk [(0, 0), (1, 1)] (free hA _) rfl rfl rfl (.cons rfl (.cons rfl (.cons rfl (.cons rfl (.cons rfl (.cons rfl .nil)))))) (.cons rfl rfl (.cons rfl rfl .nil)))
            · refine rn 2 rfl ?_
              obtain ⟨y577, ey577, h578⟩ := bd h576; clear h576
              refine sx rfl (o_call (f_plan_Ends _ _ ey577) (.inl rfl) rfl rfl rfl ?_)
              refine rl rfl ?_
              have hr := Option.some.inj h578; subst hr
              exact npn (wk [(0, 0), (1, 1)] (free hA _) rfl rfl rfl (.cons rfl (.cons rfl (.cons rfl (.cons rfl (.cons rfl (.cons rfl .nil)))))) (.cons rfl rfl (.cons rfl rfl .nil)))
          · refine cd rfl h579 (fun h580 => ?_) (fun h585 => ?_) <;> clear h579
            · refine rs env_ok ?_
              refine rl rfl ?_
              refine dwp_ret ?_
              refine inB_r ?_
              refine inB_r ?_
              obtain ⟨a581, h582, rfl⟩ := mps h580; clear h580
              refine lpt ?_
              obtain ⟨a583, h584, rfl⟩ := mps h582; clear h582
              refine lpt ?_
              refine inB_r ?_
              refine thenD_r ?_
              refine sc_r ?_
              have hr := Option.some.inj h584; subst hr
              exact er rfl Le.rfl
            · refine rs env_ok ?_
              refine rl rfl ?_
              refine cd rfl h585 (fun h586 => ?_) (fun h595 => ?_) <;> clear h585
              · refine dwp_seq ?_
                refine rs env_ok ?_
                refine rl rfl ?_
                refine cd rfl h586 (fun h589 => ?_) (fun h594 => ?_) <;> clear h586
                · refine rs env_ok ?_
                  refine rl rfl ?_
                  refine dwp_ret ?_
                  refine thenD_r ?_
                  refine inB_r ?_
                  refine inB_r ?_
                  obtain ⟨a590, h591, rfl⟩ := mps h589; clear h589
                  refine lpt ?_
                  obtain ⟨a592, h593, rfl⟩ := mps h591; clear h591
                  refine lpt ?_
                  refine inB_r ?_
                  refine thenD_r ?_
                  refine sc_r ?_
                  have hr := Option.some.inj h593; subst hr
                  exact er rfl Le.rfl
                · refine dwp_skip ?_
                  refine thenD_n ?_
                  refine dwp_exit ?_
                  refine inB_y rfl ?_
                  refine inB_x ?_
                  have hr := Option.some.inj h594; subst hr
                  exact lpn (wk [(0, 0)] (free hA _) rfl rfl rfl (.cons rfl (.cons rfl (.cons rfl (.cons rfl .nil)))) (.cons rfl rfl .nil))
              · refine jb (fun t598 : Bool => ⟨112, [(1, .lpb 0 0), (54, .p (.slice 3 (x0.elems.map elemC))), (55, .p (.int .i64 (x0.elems.length : Int))), (56, .p (.int .i64 s344)), (78, .p (.bool t598))], [(0, .box [.p (.slice 3 (x0.elems.map elemC)), .p (.slice 4 (x0.joins.map joinC)), .p (.slice 4 (x0.signals.map signalC)), .p (.slice 2 (x0.lines.map lineC)), .p (.int .i64 x0.top), .p (.int .i64 x0.brake), .p (.int .i64 x0.margin), .p (.int .i64 x0.throw), .p (.bool x0.hard)])], 1⟩) h595 (fun t598 h599 => ?_) (fun t598 h602 => ?_) <;> clear h595
                · refine rg env_ok ?_
                  refine rn 4 rfl ?_
                  refine gs 82 h599 rfl rfl rfl (fun h600 => ?_) (fun h601 => ?_) <;> clear h599
                  · refine rl rfl ?_
                    have hr := Option.some.inj h600; subst hr
                    exact npn (wk [(0, 0)] (free hA _) rfl rfl rfl (.cons rfl (.cons rfl (.cons rfl (.cons rfl (.cons rfl .nil))))) (.cons rfl rfl .nil))
                  · refine rl rfl ?_
                    have hr := Option.some.inj h601; subst hr
                    exact npn (wk [(0, 0)] (free hA _) rfl rfl rfl (.cons rfl (.cons rfl (.cons rfl (.cons rfl (.cons rfl .nil))))) (.cons rfl rfl .nil))
                · refine cd rfl h602 (fun h603 => ?_) (fun h608 => ?_) <;> clear h602
                  · refine rs env_ok ?_
                    refine rl rfl ?_
                    refine dwp_ret ?_
                    refine inB_r ?_
                    refine inB_r ?_
                    obtain ⟨a604, h605, rfl⟩ := mps h603; clear h603
                    refine lpt ?_
                    obtain ⟨a606, h607, rfl⟩ := mps h605; clear h605
                    refine lpt ?_
                    refine inB_r ?_
                    refine thenD_r ?_
                    refine sc_r ?_
                    have hr := Option.some.inj h607; subst hr
                    exact er rfl Le.rfl
                  · refine dwp_skip ?_
                    refine inB_n ?_
                    refine inB_n ?_
                    have hr := Option.some.inj h608; subst hr
                    exact lpn (wk [(0, 0)] (free hA _) rfl rfl rfl (.cons rfl (.cons rfl (.cons rfl (.cons rfl .nil)))) (.cons rfl rfl .nil))
        · intro t558 h609
          refine rg env_ok ?_
          refine rl rfl ?_
          have hr := Option.some.inj h609; subst hr
          exact lpn (wk [(0, 0)] (free hA _) rfl rfl rfl (.cons rfl (.cons rfl (.cons rfl (.cons rfl .nil)))) (.cons rfl rfl .nil))
      · refine dwp_exit ?_
        refine thenD_x ?_
        obtain ⟨a611, h612, rfl⟩ := mp h610; clear h610
        refine lpx ?_
        refine inB_x ?_
        refine thenD_n ?_
        refine dwp_seq ?_
        refine rs env_ok ?_
        refine rn 2 rfl ?_
        refine sx rfl (o_len rfl rfl ?_)
        refine rl rfl ?_
        refine dwp_block ?_
        apply lp (a := a611) (fun s692 : Int => ⟨112, [(1, .lpb 0 0), (89, .p (.slice 4 (x0.signals.map signalC))), (90, .p (.int .i64 (x0.signals.length : Int))), (91, .p (.int .i64 s692))], [(0, .box [.p (.slice 3 (x0.elems.map elemC)), .p (.slice 4 (x0.joins.map joinC)), .p (.slice 4 (x0.signals.map signalC)), .p (.slice 2 (x0.lines.map lineC)), .p (.int .i64 x0.top), .p (.int .i64 x0.brake), .p (.int .i64 x0.margin), .p (.int .i64 x0.throw), .p (.bool x0.hard)])], 1⟩) h612 <;> clear h612
        · exact wk [(0, 0)] (free hA _) rfl rfl rfl (.cons rfl (.cons rfl (.cons rfl (.cons rfl .nil)))) (.cons rfl rfl .nil)
        intro s692 b741 h742
        unfold g_plan_numbers_l2 at h742
        refine rs env_ok ?_
        refine rl rfl ?_
        refine dwp_seq ?_
        refine cd rfl h742 (fun h745 => ?_) (fun h768 => ?_) <;> clear h742
        · refine dwp_skip ?_
          refine thenD_n ?_
          refine dwp_seq ?_
          refine dwp_block ?_
          refine rs env_ok ?_
          obtain ⟨y758, ey758, h759⟩ := bd h745; clear h745
          refine sx rfl (o_idx ey758 rfl rfl rfl ?_)
          refine rl rfl ?_
          refine rs env_ok ?_
          refine rn 2 rfl ?_
          obtain ⟨y762, ey762, h763⟩ := bd h759; clear h759
          refine sx rfl (o_call (f_word_Name _ _ ey762) (.inl rfl) rfl rfl rfl ?_)
          refine rl rfl ?_
          refine cd rfl h763 (fun h764 => ?_) (fun h767 => ?_) <;> clear h763
          · refine rs env_ok ?_
            refine rl rfl ?_
            refine dwp_ret ?_
            refine inB_r ?_
            refine thenD_r ?_
            obtain ⟨a765, h766, rfl⟩ := mps h764; clear h764
            refine lpt ?_
            refine inB_r ?_
            refine thenD_r ?_
            refine sc_r ?_
            have hr := Option.some.inj h766; subst hr
            exact er rfl Le.rfl
          · refine dwp_skip ?_
            refine inB_n ?_
            refine thenD_n ?_
            refine rg env_ok ?_
            refine rl rfl ?_
            have hr := Option.some.inj h767; subst hr
            exact lpn (wk [(0, 0)] (free hA _) rfl rfl rfl (.cons rfl (.cons rfl (.cons rfl (.cons rfl .nil)))) (.cons rfl rfl .nil))
        · refine dwp_exit ?_
          refine thenD_x ?_
          obtain ⟨a769, h770, rfl⟩ := mp h768; clear h768
          refine lpx ?_
          refine inB_x ?_
          refine thenD_n ?_
          refine dwp_seq ?_
          refine rs env_ok ?_
          refine rn 2 rfl ?_
          refine sx rfl (o_len rfl rfl ?_)
          refine rl rfl ?_
          refine dwp_block ?_
          apply lp (a := a769) (fun s850 : Int => ⟨112, [(101, .p (.slice 2 (x0.lines.map lineC))), (102, .p (.int .i64 (x0.lines.length : Int))), (103, .p (.int .i64 s850))], [], 0⟩) h770 <;> clear h770
          · exact wk [] (free hA _) rfl rfl rfl (.cons rfl (.cons rfl (.cons rfl .nil))) .nil
          intro s850 b899 h900
          unfold g_plan_numbers_l3 at h900
          refine rs env_ok ?_
          refine rl rfl ?_
          refine dwp_seq ?_
          refine cd rfl h900 (fun h903 => ?_) (fun h926 => ?_) <;> clear h900
          · refine dwp_skip ?_
            refine thenD_n ?_
            refine dwp_seq ?_
            refine dwp_block ?_
            refine rs env_ok ?_
            obtain ⟨y916, ey916, h917⟩ := bd h903; clear h903
            refine sx rfl (o_idx ey916 rfl rfl rfl ?_)
            refine rl rfl ?_
            refine rs env_ok ?_
            refine rn 2 rfl ?_
            obtain ⟨y920, ey920, h921⟩ := bd h917; clear h917
            refine sx rfl (o_call (f_word_Name _ _ ey920) (.inl rfl) rfl rfl rfl ?_)
            refine rl rfl ?_
            refine cd rfl h921 (fun h922 => ?_) (fun h925 => ?_) <;> clear h921
            · refine rs env_ok ?_
              refine rl rfl ?_
              refine dwp_ret ?_
              refine inB_r ?_
              refine thenD_r ?_
              obtain ⟨a923, h924, rfl⟩ := mps h922; clear h922
              refine lpt ?_
              refine inB_r ?_
              refine thenD_r ?_
              refine sc_r ?_
              have hr := Option.some.inj h924; subst hr
              exact er rfl Le.rfl
            · refine dwp_skip ?_
              refine inB_n ?_
              refine thenD_n ?_
              refine rg env_ok ?_
              refine rl rfl ?_
              have hr := Option.some.inj h925; subst hr
              exact lpn (wk [] (free hA _) rfl rfl rfl (.cons rfl (.cons rfl (.cons rfl .nil))) .nil)
          · refine dwp_exit ?_
            refine thenD_x ?_
            obtain ⟨a927, h928, rfl⟩ := mps h926; clear h926
            refine lpx ?_
            refine inB_x ?_
            refine thenD_n ?_
            refine rs env_ok ?_
            refine rl rfl ?_
            refine dwp_ret ?_
            refine sc_r ?_
            have hr := Option.some.inj h928; subst hr
            exact er rfl Le.rfl

noncomputable def g_plan_Check_1 (x0 : Int) (x1 : Plan) : Option ByteArray :=
  (idx x1.elems x0).bind fun y3 => some y3.name

theorem f_plan_Check_1 (x0 : Int) (x1 : Plan) (r : ByteArray) (h : g_plan_Check_1 x0 x1 = some r) : Fun Try.prog 105 [.int .i64 x0, .place (planC x1) 0] (· = .str r) := by
  refine fn env_ok Try.func105 rfl rfl 10 rfl [.tmp 3] rfl [(0, .p (.int .i64 x0)), (1, .p (.place (planC x1) 0))] rfl rfl fun A hA => ?_
  unfold g_plan_Check_1 at h
  refine rs env_ok ?_
  refine rl rfl ?_
  refine rs env_ok ?_
  refine rn 3 rfl ?_
  obtain ⟨y3, ey3, h4⟩ := bd h; clear h
  refine sx rfl (o_idx ey3 rfl rfl rfl ?_)
  refine rl rfl ?_
  refine dwp_ret ?_
  have hr := Option.some.inj h4; subst hr
  exact er rfl Le.rfl

end Go.E
