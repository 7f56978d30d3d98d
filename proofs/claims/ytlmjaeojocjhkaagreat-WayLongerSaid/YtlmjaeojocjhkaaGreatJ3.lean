/- Scopes, slices set against nil, functions walked where they are called (CT), slices handed back (G5). No condition. -/
import Derived.Scope
import Derived.Test.YtlmjaeojocjhkaaGreatProg
import Derived.Test.YtlmjaeojocjhkaaGreatDel
import Derived.Shelf.Sort.Plain
import Derived.Shelf.Slices.In.SortNone
import Derived.Shelf.Slices.CompactI
import Derived.Lib.RowBridge
import Derived.ScopeJumps
import Derived.Shelf.SlIterI.Nil
import Derived.Test.YtlmjaeojocjhkaaGreatJ2
set_option linter.unusedVariables false
set_option linter.unusedSimpArgs false
namespace Go.E
open Go Go.RowKit
section
variable {α : Type} [DecidableEq α]
def Tt (a b : Option α) : Option α := if a = b then a else none
theorem W7 {a b : Option α} {x : α} (h : Tt a b = some x) : a = some x /\ b = some x := by
 unfold Tt at h
 split at h
 .rename_i e; exact ⟨h, e ▸ h⟩
 cases h
def MZ {β : Type} (l : List β) (a b : Option α) : Option α := match l with
 | [] => Tt a b
 | _ :: _ => b
end
section
variable {P : Program} {A : BD} {AD : A5} {st : St}
def scD (Q : Exit -> St -> Prop) : Exit -> St -> Prop
 | .goto _, _ => False
 | e, st => Q e st
theorem sc {c : Code} {Q : Exit -> St -> Prop} (h : B2 P A c (scD Q) st) : B2 P A (.scope c) Q st := fun a w hR =>
 wp_scope_straight (wp_mono (h a w hR) fun e a' w' ⟨st', hR', q⟩ => by
  cases e <;> first | exact q.elim | exact ⟨st', hR', q⟩)
theorem I6 {Q : Exit -> St -> Prop} (h : Q .ret st) : scD Q .ret st := h
theorem AA2 {Q : Exit -> St -> Prop} {id : Nat} (h : Q (.exit id) st) : scD Q (.exit id) st := h
section
variable {f : St -> Prop} {hf : H5 f} {nt : Nat} {sl : List (Nat × LV)} {h : AP} {c : Nat} {α Ans : Type} [DecidableEq Ans] {enc : α -> List DV} {l : List α} {d : Tmp} {t t' sz : Nat} {x y : Operand} {p q : Option Ans} {a : Ans}
theorem KV (hh : MZ l p q = some a) (ht : RN AD t = true) (hx : BF nt sl x = .p (.slice sz (l.map enc))) (hy : BF nt sl y = .p .nils)
  (k1 : p = some a -> f ⟨nt, (d, .p (.bool true)) :: sl, h, c⟩) (k2 : q = some a -> f ⟨nt, (d, .p (.bool false)) :: sl, h, c⟩) : BE P A AD ⟨nt, sl, h, c⟩ (some d) (.binOp .eql t x y t') ⟨f, hf⟩ := by
 obtain ⟨ti, e, h1, h2⟩ := Qf ht
 rw [BH (h := h) (c := c)] at hx hy
 show SC AD .eql t _ _ _
 rw [hx, hy]
 refine AR.2 ⟨ti, h1, B5.2 ⟨e, h2, ?_⟩⟩
 intro r hr
 cases l with
 | nil =>
  obtain ⟨g1, g2⟩ := W7 hh
  cases r with
  | true => exact k1 g1
  | false => exact k2 g2
 | cons z l => rw [hr (by simp)]; exact k2 hh
end
def I7 (tt : Nat -> Option TI) (rs : List ResultVar) (st : St) : Option LV :=
 match Jw tt st rs with
 | some [l] => some l
 | some ls => some (.tup ls)
 | none => none
def MA : Nat -> List LV -> List (Nat × LV)
 | _, [] => []
 | n, d :: ds => (n, d) :: MA (n + 1) ds
theorem RP : ∀ (ds : List LV) (n t : Nat), AJ t (MA n ds) = if n <= t then ds[t - n]? else none
 | [], n, t => by simp [MA, AJ]
 | d :: ds, n, t => by
  simp only [MA, AJ]
  by_cases e : t = n
  .subst e; simp
  rw [if_neg e, RP ds (n + 1) t]
  by_cases h : n + 1 <= t
  .rw [if_pos h, if_pos (by omega), show t - n = t - (n + 1) + 1 by omega, List.getElem?_cons_succ]
  rw [if_neg h, if_neg (by omega)]
theorem Vb (hE : BC P AD) {A : BD} {μ : Nat -> Option BQ} {F : Nat -> Prop} {st : St} {a : Act} {w : World} (hs : ∀ x, Aa (Af A μ st.heap) μ w (a.eval x) (st.eval x)) (hh : HRel A μ st.heap F w) {fn : Func} {r : LV} (h : I7 AD.tt fn.results.toList st = some r) :
  ∃ v, (results fn a.tmps).run P w = .ok v w /\ Aa (Af A μ st.heap) μ w v r := by
 unfold I7 at h
 cases hr : Jw AD.tt st fn.results.toList with
 | none => rw [hr] at h; cases h
 | some ls =>
  rw [hr] at h
  obtain ⟨vs, g1, g2, g3⟩ := MV (P := P) hE hs hh hr
  have hrun := MW g1
  match ls, vs, g2 with
  | [], [], _ => cases h; exact ⟨_, hrun, .tup _ _ rfl (by simp)⟩
  | [l], [v], _ => simp only [Option.some.injEq] at h; subst h; exact ⟨_, hrun, g3 0 v l rfl rfl⟩
  | l :: m :: ls, u :: v :: vs, g2 => simp only [Option.some.injEq] at h; subst h; exact ⟨_, hrun, .tup _ _ (by simpa using g2) fun i x d hx hd => g3 i x d (by simpa using hx) hd⟩
theorem WO {c : Code} {Q : Exit -> St -> Prop} (h : B2 P A c (fun e s => ∃ s', A9 A s s' /\ Q e s') st) : B2 P A c Q st := fun a w hR =>
 wp_mono (h a w hR) fun _ a' w' ⟨_, hR', s', hw, q⟩ => ⟨s', hw a' w' hR', q⟩
theorem UU (hE : BC P AD) {k : Nat} {fn : Func} {cd : Code} (hf : P.funcs[k]? = some fn) (hb : fn.body = some cd) (hn : (fn.name == "runtime.NumGoroutine") = false) (nt : Nat) (hnt : fn.ntmps = nt) (rs : List ResultVar) (hrs : fn.results.toList = rs)
  {h : AP} {ctr : Nat} {args : List LV} (hlen : args.length <= nt) {K : LV -> AP -> Nat -> Prop}
  (body : ∀ A' : BD, (∀ id, A'.μ0 id ≠ none -> id < ctr) -> B2 P A' cd (NZ fun st => ∃ l, I7 AD.tt rs st = some l /\ K l st.heap st.ctr) ⟨nt, MA 0 args, h, ctr⟩) : Cy P A h ctr k args K := by
 subst hnt hrs
 refine ⟨ED hf hb hn, fun μ w vs hh hsz hr => ?_⟩
 have hlt : ∀ id loc, μ id = some loc -> id < ctr := by
  intro id loc hm
  by_cases hi : id < ctr
  .exact hi
  rw [hh.fresh id (by simp only [Fr]; omega)] at hm; cases hm
 let A' : BD := ⟨w, A.O, Bm μ h, fun id => if id < ctr then μ id else none, fun b hb' => ⟨Nat.lt_of_lt_of_le (A.hO b hb').1 hh.size, by
  rintro ⟨id, o, loc, h1, h2, h3, rfl⟩
  exact (hh.base id o loc h1 h2 h3).2.1 hb'⟩⟩
 have hA' : ∀ id, A'.μ0 id ≠ none -> id < ctr := by
  intro id hid
  by_cases hi : id < ctr
  .exact hi
  simp [A', hi] at hid
 have hown : ∀ b, Af A' μ h b ↔ Af A μ h b := fun b => Iff.rfl
 have hh' : HRel A' μ h (Fr ctr) w := ⟨hh.obj, hh.inj, hh.fresh, fun id o loc h1 h2 h3 => ⟨(hh.base id o loc h1 h2 h3).1, (hh.base id o loc h1 h2 h3).2.1, .inr ⟨id, o, loc, h1, h2, h3, rfl⟩⟩, Nat.le_refl _, fun _ _ _ => rfl, rfl, rfl, rfl, fun id loc hm => by
  simp only [A'] at hm
  split at hm
  .exact hm
  cases hm⟩
 have hR : R A' ⟨fn.ntmps, MA 0 args, h, ctr⟩ { tmps := vs ++ Array.replicate (fn.ntmps - vs.size) undef, defers := [] } w := by
  refine ⟨⟨μ, hh', fun t ht => ?_⟩, by simp; omega, rfl⟩
  simp only [BZ, RP, Nat.zero_le, if_true, Nat.sub_zero]
  by_cases hlt' : t < args.length
  .have hv : t < vs.size := by omega
   have e : args[t]? = some args[t] := by simp [hlt']
   rw [e]
   have e2 : (vs ++ Array.replicate (fn.ntmps - vs.size) undef).getD t undef = vs[t] := by
    rw [Array.getD_eq_getD_getElem?, Array.getElem?_append_left hv]; simp [hv]
   rw [e2]
   exact hr t _ _ (by simp [hv]) e
  have e : args[t]? = none := by simp; omega
  rw [e]; exact .any _
 refine calls_of_wp hf hb (wp_mono (body A' hA' _ _ hR) ?_)
 rintro e a' w' ⟨st', ⟨⟨μ', hh2, hs⟩, hnt, hdef⟩, hq⟩
 have fin : (∃ l, I7 AD.tt fn.results.toList st' = some l /\ K l st'.heap st'.ctr) -> a'.defers = [] /\ ∃ v, (results fn a'.tmps).run P w' = .ok v w' /\
   ∃ u l h' c' μ', Ending.returned v = .returned u /\ K l h' c' /\ HRel A μ' h' (Fr c') w' /\ Aa (Af A μ' h') μ' w' u l /\ ∀ v x, Aa (Af A μ h) μ w v x -> Aa (Af A μ' h') μ' w' v x := by
  rintro ⟨l, h1, h2⟩
  obtain ⟨v, g1, g2⟩ := Vb (P := P) hE (fun x => G3 hs x) hh2 h1
  have mineof : ∀ b, b < w.heap.size -> Bm μ' st'.heap b -> Bm μ h b := by
   rintro b hb' ⟨id, o, loc, k1, k2, k3, rfl⟩
   rcases (hh2.base id o loc k1 k2 k3).2.2 with hb2 | hb2
   .exact absurd hb2 (by show ¬ w.heap.size <= _; omega)
   exact hb2
  have keepμ' : ∀ id loc, μ id = some loc -> μ' id = some loc := fun id loc hm => hh2.ext id loc (by simp only [A']; rw [if_pos (hlt id loc hm)]; exact hm)
  refine ⟨hdef, v, g1, v, l, st'.heap, st'.ctr, μ', rfl, h2, ⟨hh2.obj, hh2.inj, hh2.fresh, fun id o loc k1 k2 k3 => ⟨(hh2.base id o loc k1 k2 k3).1, (hh2.base id o loc k1 k2 k3).2.1, ?_⟩, Nat.le_trans hh.size hh2.size, fun b hb' hnf => ?_, hh2.os.trans hh.os, hh2.tape.trans hh.tape, hh2.output.trans hh.output, fun id loc hm => keepμ' id loc (hh.ext id loc hm)⟩, g2, fun v x hv => hv.mono ⟨hh2.size, fun b hb' hno => hh2.block b hb' fun hm => hno (.inr hm)⟩ (fun b hb' ho => ?_) keepμ'⟩
  .rcases (hh2.base id o loc k1 k2 k3).2.2 with hb2 | ⟨id2, o2, loc2, m1, m2, m3, m4⟩
   .exact .inl (Nat.le_trans hh.size hb2)
   rw [<- m4]; exact (hh.base id2 o2 loc2 m1 m2 m3).2.2
  .have hnm : ¬ Bm μ h b := by
    rintro ⟨id2, o2, loc2, m1, m2, m3, rfl⟩
    rcases (hh.base id2 o2 loc2 m1 m2 m3).2.2 with hb2 | hb2
    .omega
    exact hnf hb2
   rw [hh2.block b (Nat.lt_of_lt_of_le hb' hh.size) hnm]
   exact hh.block b hb' hnf
  rcases ho with ho | ho
  .exact .inl ho
  exact .inr (mineof b hb' ho)
 cases e with
 | normal => exact fin hq
 | ret => exact fin hq
 | _ => exact hq.elim
def IP (tt : Nat -> Option TI) (rs : List ResultVar) (A : BD) (L : LV) (H : AP) (C : Nat) (e : Exit) (st : St) : Prop :=
 ∃ s', A9 A st s' /\ NZ (fun s => I7 tt rs s = some L /\ s.heap = H /\ s.ctr = C) e s'
theorem CX {rs : List ResultVar} {L : LV} {nt C : Nat} {sl : List (Nat × LV)} {H : AP} (hw : A9 A st ⟨nt, sl, H, C⟩) (hr : I7 AD.tt rs ⟨nt, sl, H, C⟩ = some L) : IP AD.tt rs A L H C .ret st := ⟨_, hw, hr, rfl, rfl⟩
theorem MB {rs : List ResultVar} {L : LV} {nt C : Nat} {sl : List (Nat × LV)} {H : AP} (hw : A9 A st ⟨nt, sl, H, C⟩) (hr : I7 AD.tt rs ⟨nt, sl, H, C⟩ = some L) : IP AD.tt rs A L H C .normal st := ⟨_, hw, hr, rfl, rfl⟩
section
variable {f : St -> Prop} {hf : H5 f} {nt : Nat} {sl : List (Nat × LV)} {h : AP} {c : Nat} {σ Ans : Type}
theorem CT (hE : BC P AD) (L : σ -> LV) (H : σ -> AP) (C : Nat) {sp : Option σ} {rest : σ -> Option Ans} {a : Ans} {dst : Option Tmp} {fo : Operand} {args : Array Operand} {ts : Array TypeId} {k : Nat} {fn : Func} {cd : Code} {caps ls : List LV}
  (hh : sp.bind rest = some a) (hfun : P.funcs[k]? = some fn) (nt' : Nat) (rs : List ResultVar) (sl' : List (Nat × LV)) (hb : fn.body = some cd) (hn : (fn.name == "runtime.NumGoroutine") = false) (hnt : Nat.beq fn.ntmps nt' = true) (hrs : fn.results.toList = rs)
  (hfn : BF nt sl fo = .fn k caps) (hl : EW nt sl args.toList some = some ls) (hlen : Nat.ble (ls ++ caps).length nt' = true) (hsl : MA 0 (ls ++ caps) = sl')
  (body : ∀ A : BD, (∀ id, A.μ0 id ≠ none -> id < c) -> ∀ t, sp = some t -> B2 P A cd (IP AD.tt rs A (L t) (H t) C) ⟨nt', sl', h, c⟩)
  (kk : ∀ t, rest t = some a -> f (match dst with | some d => ⟨nt, (d, L t) :: sl, H t, C⟩ | none => ⟨nt, sl, H t, C⟩)) : BE P A AD ⟨nt, sl, h, c⟩ dst (.call ⟨.value fo, args, ts⟩) ⟨f, hf⟩ := by
 obtain ⟨t, h1, h2⟩ := bd hh
 rw [BH (h := h) (c := c)] at hfn
 show ON _ _
 rw [hfn]
 show Jy P A h c k (args.toList.map _ ++ caps) _
 rw [Io hl]
 subst hsl
 refine UU hE hfun hb hn nt' (Nat.eq_of_beq_eq_true hnt) rs hrs (Nat.le_of_ble_eq_true hlen) fun A' hA' => ?_
 have := WO (body A' hA' t h1)
 refine LJ this fun e s q => ?_
 have fin : (I7 AD.tt rs s = some (L t) /\ s.heap = H t /\ s.ctr = C) -> ∃ l, I7 AD.tt rs s = some l /\ f (St.go ⟨nt, sl, h, c⟩ dst l s.heap s.ctr) := by
  rintro ⟨q1, q2, q3⟩
  refine ⟨_, q1, ?_⟩
  rw [q2, q3, Ps]
  have := kk t h2
  cases dst <;> exact this
 cases e <;> first | exact fin q | exact q.elim
end
def RQ : Nat -> List (Nat × Nat) -> Bool
 | 0, _ => true
 | n + 1, gl => match Bf n gl with
  | some m => match Nat.beq n m with
   | true => RQ n gl
   | false => false
  | none => false
theorem UV : ∀ {n : Nat} {gl : List (Nat × Nat)}, RQ n gl = true -> ∀ i, i < n -> AJ i gl = some i
 | 0, _, _, i, h => by omega
 | n + 1, gl, hk, i, hi => by
  simp only [RQ] at hk
  split at hk
  .rename_i m hm
   split at hk
   .rename_i hb
    have := Nat.eq_of_beq_eq_true hb
    subst this
    by_cases e : i = n
    .subst e; rw [<- BM]; exact hm
    exact UV hk i (by omega)
   cases hk
  cases hk
theorem Ko {n : Nat} (hA : ∀ id, A.μ0 id ≠ none -> id < n) (gl : List (Nat × Nat)) (hk : RQ n gl = true) : ∀ id, A.μ0 id ≠ none -> AJ id gl = some id := fun id h => UV hk id (hA id h)
theorem wj {n nt : Nat} {sl sl' : List (Nat × LV)} {h h' : AP} {c c' : Nat} (hA : ∀ id, A.μ0 id ≠ none -> id < n) (gl : List (Nat × Nat)) (hk : RQ n gl = true) (ha : W6 gl sl' h' c' = true) (hs : Tp sl sl' = Tq gl sl') (hh : Tr gl h h' = Ts gl h') : A9 A ⟨nt, sl, h, c⟩ ⟨nt, sl', h', c'⟩ :=
 wk gl (Ko hA gl hk) (LB ha).1 (LB ha).2.1 (LB ha).2.2 (US hs) (UT hh)
section
variable {f : St -> Prop} {hf : H5 f} {nt : Nat} {sl : List (Nat × LV)} {h : AP} {c : Nat} {d : Tmp} {α : Type} {enc : α -> List DV}
theorem AAP {fo : Operand} {args : Array Operand} {ts : Array TypeId} {k e sz : Nat} {caps ls : List LV} {ds : List DV} {r : List α} (hF : G5 P k ds e sz (r.map enc))
  (hs : (ls ++ caps).flatMap (ET h) = []) (hfn : BF nt sl fo = .fn k caps) (hl : EW nt sl args.toList some = some ls) (hds : By h (ls ++ caps) = some ds)
  (kk : f ⟨nt, (d, .lsl c sz 0 r.length) :: sl, (c, .row e sz (r.map enc)) :: h, c + 1⟩) : BE P A AD ⟨nt, sl, h, c⟩ (some d) (.call ⟨.value fo, args, ts⟩) ⟨f, hf⟩ := by
 rw [BH (h := h) (c := c)] at hfn
 show ON _ _
 rw [hfn]
 show Jy P A h c k (args.toList.map _ ++ caps) _
 rw [Io hl]
 refine ABt hds hF hs ?_
 rw [List.length_map]
 exact kk
theorem fnN {k : Nat} {fn : Func} {cd : Code} {ds : List DV} {e sz : Nat} {r : List α} (hen : Zv enc sz) (hf : P.funcs[k]? = some fn) (hb : fn.body = some cd) (hn : (fn.name == "runtime.NumGoroutine") = false) (nt : Nat) (hnt : Nat.beq fn.ntmps nt = true)
  (t : Nat) (hrs : fn.results.toList = [.tmp t]) (sl : List (Nat × LV)) (hsl : DA 0 ds = sl) (hlen : Nat.ble ds.length nt = true)
  (h : ∀ A : BD, (∀ id, A.μ0 id = none) -> B2 P A cd (W0 t e sz (r.map enc)) ⟨nt, sl, [], 0⟩) : G5 P k ds e sz (r.map enc) := by
 subst hsl
 refine AAH hf hb hn nt (Nat.eq_of_beq_eq_true hnt) t hrs (Nat.le_of_ble_eq_true hlen) (fun x hx => ?_) h
 obtain ⟨a, _, rfl⟩ := List.mem_map.1 hx
 exact (hen a).1
theorem erN {t e sz id n : Nat} {r : List α} (hv : BF nt sl (.tmp t) = .lsl id sz 0 n) (hl : Bf id h = some (.row e sz (r.map enc))) (hn : n = r.length) : W0 t e sz (r.map enc) .ret ⟨nt, sl, h, c⟩ := by
 rw [BH (h := h) (c := c)] at hv
 rw [BM] at hl
 refine .inl ⟨id, ?_, hl⟩
 rw [hv, hn, List.length_map]
theorem AA3 {t e sz : Nat} (hv : BF nt sl (.tmp t) = .p .nils) : W0 t e sz (([] : List α).map enc) .ret ⟨nt, sl, h, c⟩ := by
 rw [BH (h := h) (c := c)] at hv
 exact .inr ⟨hv, rfl⟩
end
end
end Go.E
/- Rules for single operations: arrays, division, a nil slice as an empty one. No condition. -/
namespace Go.E
open Go Go.RowKit
section
variable {P : Program} {A : BD} {AD : A5} {f : St -> Prop} {hf : H5 f} {nt : Nat} {sl : List (Nat × LV)} {h : AP} {c : Nat} {d : Tmp} {α : Type} {l : List α} {t : Nat} {x i : Operand}
theorem BA {α : Type} (l : List α) (n : Int) (z : α) : (A4 l n z).length = l.length := by simp [A4]
def W8 (AD : A5) (t m : Nat) : Bool := match AD.tt t with
 | some ti => match ti.sh with
  | .arr n e => match AD.tt e with
   | some te => match te.sh with
    | .struct _ | .arr _ _ => false
    | _ => Nat.beq n m && Nat.beq te.size 1
   | none => false
  | _ => false
 | none => false
theorem WP {t m : Nat} (h : W8 AD t m = true) : ∃ ti e te, AD.tt t = some ti /\ ti.sh = .arr m e /\ AD.tt e = some te /\ te.size = 1 /\ te.sh.isAgg = false := by
 unfold W8 at h
 split at h
 .rename_i ti hti
  split at h
  .rename_i n e he
   split at h
   .rename_i te hte
    split at h
    .cases h
    .cases h
    rename_i k1 k2
    simp only [Bool.and_eq_true] at h
    have h1 := Nat.eq_of_beq_eq_true h.1
    subst h1
    refine ⟨ti, e, te, hti, he, hte, Nat.eq_of_beq_eq_true h.2, ?_⟩
    cases hq : te.sh <;> first | rfl | exact absurd hq (k1 _) | exact absurd hq (k2 _ _)
   cases h
  cases h
 cases h
theorem W9 {n : Int} {kk : IntKind} {id : Nat} {y : α} (hy : AY l n = some y) (ht : W8 AD t l.length = true) (hx : BF nt sl x = .lpb id 0) (hi : BF nt sl i = .p (.int kk n)) (_ : True = True)
  (k : f ⟨nt, (d, .lpb id n.toNat) :: sl, h, c⟩) : BE P A AD ⟨nt, sl, h, c⟩ (some d) (.indexAddr t x i) ⟨f, hf⟩ := by
 obtain ⟨ti, e, te, h1, h2, h3, h4, _⟩ := WP ht
 obtain ⟨g1, g2, g3⟩ := Fz hy
 rw [BH (h := h) (c := c)] at hx hi
 refine B8.2 ⟨kk, n, hi, AR.2 ⟨ti, h1, ?_⟩⟩
 dsimp only
 rw [h2, hx]
 refine AR.2 ⟨te, h3, ⟨g1, by omega⟩, ?_⟩
 simp only [Nat.zero_add, h4, Nat.mul_one]
 exact k
def XA (AD : A5) (t : Nat) : Bool := match AD.tt t with
 | some ti => match ti.sh with
  | .struct _ | .arr _ _ => false
  | _ => true
 | none => false
theorem ZN {t : Nat} (h : XA AD t = true) : ∃ ti, AD.tt t = some ti /\ ti.sh.isAgg = false := by
 unfold XA at h
 split at h
 .rename_i ti hti
  refine ⟨ti, hti, ?_⟩
  split at h
  .cases h
  .cases h
  rename_i k1 k2
  cases hq : ti.sh <;> first | rfl | exact absurd hq (k1 _) | exact absurd hq (k2 _ _)
 cases h
theorem XB {n : Int} {id : Nat} {y : α} {g : α -> LV} (hy : AY l n = some y) (hx : BF nt sl x = .lpb id n.toNat) (hl : Bf id h = some (.box (l.map g))) (ht : XA AD t = true) (_ : True = True)
  (k : f ⟨nt, (d, g y) :: sl, h, c⟩) : BE P A AD ⟨nt, sl, h, c⟩ (some d) (.load t x) ⟨f, hf⟩ := by
 obtain ⟨ti, h1, h2⟩ := ZN ht
 obtain ⟨g1, g2, g3⟩ := Fz hy
 rw [BH (h := h) (c := c)] at hx
 rw [BM] at hl
 refine AR.2 ⟨ti, h1, ?_⟩
 rw [hx]
 refine AS.2 ⟨_, hl, ?_⟩
 dsimp only
 refine Ii.2 ⟨_, rfl, ?_⟩
 refine AS.2 ⟨g y, ?_, k⟩
 simp only [Cz, h2, Bool.false_eq_true, if_false, List.getElem?_map, g3, Option.map_some]
theorem ABw {n : Int} {kk : IntKind} {y : α} {g : α -> DV} (hy : AY l n = some y) (ht : W8 AD t l.length = true) (hx : BF nt sl x = .p (.agg (l.map g))) (hi : BF nt sl i = .p (.int kk n)) (_ : True = True)
  (k : f ⟨nt, (d, .p (g y)) :: sl, h, c⟩) : BE P A AD ⟨nt, sl, h, c⟩ (some d) (.index t x i) ⟨f, hf⟩ := by
 obtain ⟨ti, e, te, h1, h2, h3, h4, h5⟩ := WP ht
 obtain ⟨g1, g2, g3⟩ := Fz hy
 rw [BH (h := h) (c := c)] at hx hi
 refine B8.2 ⟨kk, n, hi, AR.2 ⟨ti, h1, g1, ?_⟩⟩
 dsimp only
 rw [h2, hx]
 refine AR.2 ⟨te, h3, by show n < (l.length : Int); omega, AS.2 ⟨.p (g y), ?_, k⟩⟩
 simp only [Cz, h5, Bool.false_eq_true, if_false, h4, Nat.mul_one, List.map_map, List.getElem?_map, g3, Option.map_some, Function.comp]
section
variable {κ υ : Type} [BEq κ] {ke : κ -> DV} {ve : υ -> DV} {mp : List (κ × υ)} {kt et : Nat}
def Lg (m : List (κ × υ)) (x : κ) : Nat := match m with
 | [] => 0
 | p :: m => if x == p.1 then 0 else Lg m x + 1
def I8 (m : List (κ × υ)) (x : κ) (z : υ) : List (κ × υ) := match m with
 | [] => [(x, z)]
 | p :: m => if x == p.1 then p :: m else p :: I8 m x z
theorem RR (hk : H2 AD kt ke) (x : κ) : ∀ m : List (κ × υ), (CU (ke x) (Ao ke ve m)).map (·.1) = if (Ah m x).isSome then some (Lg m x) else none
 | [] => by simp [Ao, CU, Ah]
 | p :: m => by
  have ih := RR hk x m
  simp only [Ao] at ih
  simp only [Ao, List.map_cons, CU, hk.eq, Ah, Lg]
  by_cases h : (x == p.1) = true
  .simp [h]
  simp only [h, Bool.false_eq_true, if_false, Option.map_map]
  cases ha : (Ah m x).isSome with
  | true =>
   rw [ha, if_pos rfl] at ih
   obtain ⟨r, hr, h1⟩ := Option.map_eq_some_iff.1 ih
   rw [hr]; simp [h1]
  | false =>
   rw [ha] at ih
   simp only [Bool.false_eq_true, if_false, Option.map_eq_none_iff] at ih
   rw [ih]; simp
theorem Sw {x : κ} {z : υ} : ∀ {m : List (κ × υ)}, (Ah m x).isSome = true -> I8 m x z = m
 | [], h => by simp [Ah] at h
 | p :: m, h => by
  simp only [Ah] at h
  simp only [I8]
  by_cases hx : (x == p.1) = true
  .rw [if_pos hx]
  rw [if_neg hx] at h ⊢; rw [Sw h]
theorem Sx {x : κ} {z : υ} : ∀ {m : List (κ × υ)}, (Ah m x).isSome = false -> I8 m x z = m ++ [(x, z)] /\ Lg m x = m.length
 | [], _ => ⟨rfl, rfl⟩
 | p :: m, h => by
  simp only [Ah] at h
  simp only [I8, Lg]
  by_cases hx : (x == p.1) = true
  .rw [if_pos hx] at h; cases h
  rw [if_neg hx] at h ⊢
  obtain ⟨h1, h2⟩ := Sx (z := z) h
  rw [h1, if_neg hx, h2]; simp
theorem Sy {x : κ} {z w : υ} : ∀ (m : List (κ × υ)), ∃ p, (I8 m x z)[Lg m x]? = some p /\ (I8 m x z).set (Lg m x) (p.1, w) = A2 x w m
 | [] => ⟨(x, z), rfl, rfl⟩
 | p :: m => by
  simp only [I8, Lg, A2]
  by_cases hx : (x == p.1) = true
  .simp only [hx, if_true]; exact ⟨p, rfl, rfl⟩
  simp only [hx, Bool.false_eq_true, if_false]
  obtain ⟨q, h1, h2⟩ := Sy (x := x) (z := z) (w := w) m
  exact ⟨q, by simpa using h1, by simp [h2]⟩
theorem UW {id : Nat} {v : BB} : ∀ {h : AP}, AJ id h = some v -> BR id v h = h
 | [], hl => by simp [AJ] at hl
 | (q, u) :: r, hl => by
  simp only [AJ] at hl
  simp only [BR]
  split
  .rw [if_pos ‹_›] at hl; cases hl; rfl
  rw [if_neg ‹_›] at hl; rw [UW hl]
theorem RS {y : κ} {id : Nat} {h' : AP} (z : υ) (hk : H2 AD kt ke) (hx : BF nt sl x = .lmap id) (hm : Bf id h = some (.map (Ao ke ve mp))) (hi : BF nt sl i = .p (ke y)) (ht : UQ AD t kt et = true) (hz : (AD.tt et).map TI.zeroDV = some (ve z))
  (hu : Km id (.map (Ao ke ve (I8 mp y z))) h some = some h') (k : f ⟨nt, (d, .tup [.p (ve ((Ah mp y).getD z)), .p (.int .i64 (Lg mp y))]) :: sl, h', c⟩) : BE P A AD ⟨nt, sl, h, c⟩ (some d) (.mapEntry t x i) ⟨f, hf⟩ := by
 obtain ⟨ti, h1, h2⟩ := O9 ht
 rw [BH (h := h) (c := c)] at hx hi
 rw [BM] at hm
 rw [GY, Option.some.injEq] at hu
 subst hu
 obtain ⟨te, h3, h4⟩ := Option.map_eq_some_iff.1 hz
 refine AR.2 ⟨ti, h1, EK.2 ⟨kt, et, h2, AR.2 ⟨te, h3, Dd.2 ⟨id, hx, AS.2 ⟨_, hm, ?_⟩⟩⟩⟩⟩
 dsimp only
 refine EU.2 ⟨Ao ke ve mp, rfl, ?_⟩
 refine Cc.2 ⟨_, hi, ⟨hk.fits y, KU hk mp⟩, ?_⟩
 have hf1 := RR (ve := ve) hk y mp
 rw [L9 hk, h4, Qg]
 cases ha : (Ah mp y).isSome with
 | true =>
  rw [ha, if_pos rfl] at hf1
  obtain ⟨r, hr, h5⟩ := Option.map_eq_some_iff.1 hf1
  rw [Sw ha, UW hm] at k
  rw [hr]
  simp only [Option.map_some, Option.getD_some, h5]
  exact k
 | false =>
  rw [ha] at hf1
  simp only [Bool.false_eq_true, if_false, Option.map_eq_none_iff] at hf1
  obtain ⟨g1, g2⟩ := Sx (z := z) ha
  rw [g1, g2] at k
  rw [hf1]
  have e1 : Ao ke ve (mp ++ [(y, z)]) = Ao ke ve mp ++ [(ke y, ve z)] := by simp [Ao]
  have e2 : (Ao ke ve mp).length = mp.length := by simp [Ao]
  rw [e1] at k
  simp only [Option.map_none, Option.getD_none, e2]
  exact k
theorem RT {y : κ} {z w : υ} {id : Nat} {h' : AP} {s v : Operand} (hx : BF nt sl x = .lmap id) (hm : Bf id h = some (.map (Ao ke ve (I8 mp y z)))) (hs : BF nt sl s = .p (.int .i64 (Lg mp y))) (hv : BF nt sl v = .p (ve w))
  (hu : Km id (.map (Ao ke ve (A2 y w mp))) h some = some h') (k : f ⟨nt, sl, h', c⟩) : BE P A AD ⟨nt, sl, h, c⟩ none (.entryStore t x s v) ⟨f, hf⟩ := by
 rw [BH (h := h) (c := c)] at hx hs hv
 rw [BM] at hm
 rw [GY, Option.some.injEq] at hu
 subst hu
 refine Dd.2 ⟨id, hx, AS.2 ⟨_, hm, ?_⟩⟩
 dsimp only
 refine EU.2 ⟨_, rfl, ?_⟩
 refine B8.2 ⟨.i64, _, hs, Cc.2 ⟨_, hv, Int.natCast_nonneg _, ?_⟩⟩
 obtain ⟨p, h1, h2⟩ := Sy (x := y) (z := z) (w := w) mp
 refine AS.2 ⟨(ke p.1, ve p.2), by simp only [Int.toNat_natCast, Ao, List.getElem?_map, h1, Option.map_some], ?_⟩
 have e : (Ao ke ve (I8 mp y z)).set (Int.toNat (Lg mp y : Int)) (ke p.1, ve w) = Ao ke ve (A2 y w mp) := by
  rw [<- h2]; simp [Ao, List.map_set]
 dsimp only
 rw [e]
 exact k
end
end
def bsF (AD : A5) (nt : Nat) (sl : List (Nat × LV)) (t n : Nat) (ps : List (Nat × Operand)) : Option (Nat × List (List DV)) :=
 match AD.tt t with
 | some ti => match ti.sh with
  | .slc e => match AD.tt e with
   | some te => match Nat.blt 0 te.size && Nat.ble (n * te.size) 16777216 with
    | true => Nq nt sl ps fun ps' => O0 te.size 0 ps' fun l => match Nat.beq l.length n with
     | true => some (te.size, l)
     | false => none
    | false => none
   | none => none
  | _ => none
 | none => none
theorem XC {P : Program} {A : BD} {AD : A5} {nt : Nat} {sl : List (Nat × LV)} {h : AP} {c d : Nat} {f : St -> Prop} {hf : H5 f} {t n sz : Nat} {ps : Array (Nat × Operand)} {l : List (List DV)}
  (hb : bsF AD nt sl t n ps.toList = some (sz, l)) (k : f ⟨nt, (d, .p (.slice sz l)) :: sl, h, c⟩) : BE P A AD ⟨nt, sl, h, c⟩ (some d) (.buildSlice t n ps) ⟨f, hf⟩ := by
 unfold bsF at hb
 split at hb
 .rename_i ti ht
  split at hb
  .rename_i e hsh
   split at hb
   .rename_i te hte
    split at hb
    .rename_i hq
     rw [La] at hb
     obtain ⟨l', h1, h2⟩ := O1 hb
     split at h2
     .rename_i hlen
      simp only [Option.some.injEq, Prod.mk.injEq] at h2
      obtain ⟨rfl, rfl⟩ := h2
      simp only [Bool.and_eq_true] at hq
      simp only [BE]
      simp only [BH (h := h) (c := c)] at h1
      exact AR.2 ⟨ti, ht, B5.2 ⟨e, hsh, AR.2 ⟨te, hte, ⟨Nat.le_of_ble_eq_true hq.1, Nat.le_of_ble_eq_true hq.2⟩, AS.2 ⟨l', h1, Nat.eq_of_beq_eq_true hlen, .inr k⟩⟩⟩⟩
     cases h2
    cases hb
   cases hb
  cases hb
 cases hb
end Go.E
/- The types that the functions of this seat use, as plain data. Written by a program (mkenv.py). No condition. -/
namespace Go.E
open Go Go.RowKit Go.Proofs
def ttL : List (Nat × TI) := [
 (3, ⟨.int .i64, 1, 8, [.int .i64 0]⟩),
 (4, ⟨.bool, 1, 1, [.bool false]⟩),
 (5, ⟨.int .u8, 1, 1, [.int .u8 0]⟩),
 (9, ⟨.str, 1, 16, [.str .empty]⟩),
 (22, ⟨.slc 123, 1, 24, [.nils]⟩),
 (23, ⟨.slc 125, 1, 24, [.nils]⟩),
 (24, ⟨.slc 110, 1, 24, [.nils]⟩),
 (25, ⟨.slc 147, 1, 24, [.nils]⟩),
 (27, ⟨.struct [(0, 22), (1, 23), (2, 24), (3, 25), (4, 3), (5, 3), (6, 3), (7, 3), (8, 4)], 9, 136, [.nils, .nils, .nils, .nils, .int .i64 0, .int .i64 0, .int .i64 0, .int .i64 0, .bool false]⟩),
 (28, ⟨.slc 80, 1, 24, [.nils]⟩),
 (29, ⟨.slc 68, 1, 24, [.nils]⟩),
 (31, ⟨.struct [(0, 3), (1, 28), (2, 29)], 3, 56, [.int .i64 0, .nils, .nils]⟩),
 (33, ⟨.slc 72, 1, 24, [.nils]⟩),
 (35, ⟨.struct [(0, 27), (9, 33)], 10, 160, [.nils, .nils, .nils, .nils, .int .i64 0, .int .i64 0, .int .i64 0, .int .i64 0, .bool false, .nils]⟩),
 (36, ⟨.other, 1, 8, [.nilp]⟩),
 (40, ⟨.struct [(0, 3), (1, 3)], 2, 16, [.int .i64 0, .int .i64 0]⟩),
 (42, ⟨.struct [(0, 9), (1, 3), (2, 40), (4, 3)], 5, 48, [.str .empty, .int .i64 0, .int .i64 0, .int .i64 0, .int .i64 0]⟩),
 (50, ⟨.slc 3, 1, 24, [.nils]⟩),
 (54, ⟨.slc 88, 1, 24, [.nils]⟩),
 (56, ⟨.struct [(0, 50), (1, 54)], 2, 48, [.nils, .nils]⟩),
 (62, ⟨.int .i64, 1, 8, [.int .i64 0]⟩),
 (66, ⟨.slc 97, 1, 24, [.nils]⟩),
 (68, ⟨.struct [(0, 9), (1, 3), (2, 3), (3, 3), (4, 66)], 5, 64, [.str .empty, .int .i64 0, .int .i64 0, .int .i64 0, .nils]⟩),
 (69, ⟨.slc 76, 1, 24, [.nils]⟩),
 (70, ⟨.slc 185, 1, 24, [.nils]⟩),
 (72, ⟨.struct [(0, 3), (1, 3), (2, 3), (3, 69), (4, 70), (5, 70), (6, 50), (7, 50), (8, 4)], 9, 152, [.int .i64 0, .int .i64 0, .int .i64 0, .nils, .nils, .nils, .nils, .nils, .bool false]⟩),
 (76, ⟨.struct [(0, 3), (1, 3), (2, 3)], 3, 24, [.int .i64 0, .int .i64 0, .int .i64 0]⟩),
 (80, ⟨.struct [(0, 9), (1, 3), (2, 3), (3, 3), (4, 3)], 5, 48, [.str .empty, .int .i64 0, .int .i64 0, .int .i64 0, .int .i64 0]⟩),
 (88, ⟨.struct [(0, 50), (1, 3)], 2, 32, [.nils, .int .i64 0]⟩),
 (97, ⟨.struct [(0, 4), (1, 3), (2, 3), (3, 3)], 4, 32, [.bool false, .int .i64 0, .int .i64 0, .int .i64 0]⟩),
 (110, ⟨.struct [(0, 9), (1, 40), (3, 4)], 4, 40, [.str .empty, .int .i64 0, .int .i64 0, .bool false]⟩),
 (115, ⟨.slc 40, 1, 24, [.nils]⟩),
 (117, ⟨.struct [(0, 3), (1, 115), (2, 3), (3, 3), (4, 3)], 5, 56, [.int .i64 0, .nils, .int .i64 0, .int .i64 0, .int .i64 0]⟩),
 (123, ⟨.struct [(0, 9), (1, 3), (2, 3)], 3, 32, [.str .empty, .int .i64 0, .int .i64 0]⟩),
 (125, ⟨.struct [(0, 40), (2, 40)], 4, 32, [.int .i64 0, .int .i64 0, .int .i64 0, .int .i64 0]⟩),
 (130, ⟨.mp 40 40, 1, 8, [.nilm]⟩),
 (131, ⟨.mp 40 3, 1, 8, [.nilm]⟩),
 (132, ⟨.mp 3 161, 1, 8, [.nilm]⟩),
 (133, ⟨.mp 3 3, 1, 8, [.nilm]⟩),
 (135, ⟨.struct [(0, 27), (9, 130), (10, 131), (11, 132), (12, 133)], 13, 168, [.nils, .nils, .nils, .nils, .int .i64 0, .int .i64 0, .int .i64 0, .int .i64 0, .bool false, .nilm, .nilm, .nilm, .nilm]⟩),
 (143, ⟨.mp 3 4, 1, 8, [.nilm]⟩),
 (147, ⟨.struct [(0, 9), (1, 50)], 2, 40, [.str .empty, .nils]⟩),
 (152, ⟨.arr 40 4, 40, 40, [.bool false, .bool false, .bool false, .bool false, .bool false, .bool false, .bool false, .bool false, .bool false, .bool false, .bool false, .bool false, .bool false, .bool false, .bool false, .bool false, .bool false, .bool false, .bool false, .bool false, .bool false, .bool false, .bool false, .bool false, .bool false, .bool false, .bool false, .bool false, .bool false, .bool false, .bool false, .bool false, .bool false, .bool false, .bool false, .bool false, .bool false, .bool false, .bool false, .bool false]⟩),
 (161, ⟨.arr 2 3, 2, 16, [.int .i64 0, .int .i64 0]⟩),
 (164, ⟨.slc 9, 1, 24, [.nils]⟩),
 (185, ⟨.struct [(0, 3), (1, 3)], 2, 16, [.int .i64 0, .int .i64 0]⟩),
 (186, ⟨.mp 40 4, 1, 8, [.nilm]⟩),
 (191, ⟨.other, 1, 8, [.nilp]⟩),
 (209, ⟨.other, 1, 8, [.nilp]⟩),
 (210, ⟨.slc 215, 1, 24, [.nils]⟩),
 (212, ⟨.struct [(0, 3), (1, 69), (2, 50), (3, 210)], 4, 80, [.int .i64 0, .nils, .nils, .nils]⟩),
 (215, ⟨.slc 217, 1, 24, [.nils]⟩),
 (217, ⟨.struct [(0, 3), (1, 3)], 2, 16, [.int .i64 0, .int .i64 0]⟩),
 (223, ⟨.mp 9 4, 1, 8, [.nilm]⟩),
 (227, ⟨.int .u64, 1, 8, [.int .u64 0]⟩),
 (232, ⟨.int .i64, 1, 8, [.int .i64 0]⟩),
 (239, ⟨.int .u32, 1, 4, [.int .u32 0]⟩),
 (241, ⟨.int .u64, 1, 8, [.int .u64 0]⟩),
 (242, ⟨.arr 4 3, 4, 32, [.int .i64 0, .int .i64 0, .int .i64 0, .int .i64 0]⟩),
 (243, ⟨.arr 3 3, 3, 24, [.int .i64 0, .int .i64 0, .int .i64 0]⟩),
 (244, ⟨.int .u64, 1, 8, [.int .u64 0]⟩),
 (248, ⟨.other, 1, 8, [.nilp]⟩)]
def eqL : List (Nat × List Sh) := [(40, [.int .i64, .int .i64]), (42, [.str, .int .i64, .int .i64, .int .i64, .int .i64]), (185, [.int .i64, .int .i64])]
def AA5 : List (Nat × List Sh) := [(40, [.int .i64, .int .i64])]
def AA6 : List Nat := [36]
def AD : A5 := ⟨fun t => Bf t ttL, fun t => Bf t eqL, fun t => Bf t AA5, UK AA6, none, false⟩
theorem AA7 : ∃ e, Tryz.prog.underlying 36 = some (.pointer e) := ⟨135, by kernel_rfl⟩
theorem M4 : Ox Tryz.prog AD.tt := ZJ (by kernel_rfl)
theorem Zw : Ot Tryz.prog 40 [.int .i64, .int .i64] := Sl (by kernel_rfl) (by kernel_rfl) (by kernel_rfl) (by kernel_rfl)
theorem AA8 : RB Tryz.prog 40 [.int .i64, .int .i64] := Wp (by kernel_rfl) Zw (by kernel_rfl)
theorem ABx : Ot Tryz.prog 42 [.str, .int .i64, .int .i64, .int .i64, .int .i64] := YG [(false, [.str]), (false, [.int .i64]), (true, [.int .i64, .int .i64]), (false, [.int .i64])] (by kernel_rfl) (by kernel_rfl) (by kernel_rfl) (by kernel_rfl)
theorem AA9 : Ot Tryz.prog 185 [.int .i64, .int .i64] := Sl (by kernel_rfl) (by kernel_rfl) (by kernel_rfl) (by kernel_rfl)
theorem AA : BC Tryz.prog AD := by
 refine ⟨M4, fun t ks h => ?_, fun t ks h => ?_, fun t h => ?_⟩
 .simp only [AD, BM, eqL, AJ] at h
  split at h
  .subst_vars; cases h; exact Zw
  split at h
  .subst_vars; cases h; exact ABx
  split at h
  .subst_vars; cases h; exact AA9
  cases h
 .simp only [AD, BM, AA5, AJ] at h
  split at h
  .subst_vars; cases h; exact AA8
  cases h
 simp only [AD, AA6, WJ, List.mem_cons, List.not_mem_nil, or_false] at h
 rcases h with rfl
 exact AA7
theorem mixed : Tryz.prog.follows .mixedOrders = true := by kernel_rfl
end Go.E
/- slices.Delete as a call out of a data state: the row goes on under a new name. For an own slice, i up to j up to its length. -/
namespace Go.E
open Go Go.RowKit Go.Shelf Go.Proofs
theorem Ik (b : Nat) : ∀ (vs : List Value) (o : Nat) (w : World) (c : Array Value) (e : TypeId), w.heap[b]? = some (.cells c e (0, 0)) -> o + vs.length <= c.size ->
  ∃ c', (w.setCells b o vs).heap[b]? = some (.cells c' e (0, 0)) /\ c'.size = c.size /\ ∀ t, c'[t]? = if o <= t /\ t < o + vs.length then vs[t - o]? else c[t]?
 | [], o, w, c, e, h, _ => ⟨c, h, rfl, fun t => by rw [if_neg (by simp)]⟩
 | v :: r, o, w, c, e, h, hl => by
  simp only [List.length_cons] at hl
  have hb : (w.setCell ⟨b, o, none⟩ v).heap[b]? = some (.cells (c.setIfInBounds o v) e (0, 0)) := by
   simp [World.setCell, Array.getElem?_modify, h]
  obtain ⟨c', h1, h2, h3⟩ := Ik b r (o + 1) _ _ e hb (by simp; omega)
  refine ⟨c', h1, by rw [h2]; simp, fun t => ?_⟩
  rw [h3 t]
  simp only [List.length_cons]
  by_cases h4 : t = o
  .subst h4
   rw [if_neg (by omega), if_pos (by omega), Array.getElem?_setIfInBounds, if_pos rfl, if_pos (by omega)]
   simp
  by_cases h5 : o + 1 <= t /\ t < o + 1 + r.length
  .rw [if_pos h5, if_pos (by omega)]
   rw [show t - o = t - (o + 1) + 1 by omega, List.getElem?_cons_succ]
  rw [if_neg h5, if_neg (by omega), Array.getElem?_setIfInBounds, if_neg (fun e => h4 e.symm)]
theorem Kp (b : Nat) : ∀ (vs : List Value) (o : Nat) (w : World), (w.setCells b o vs).heap.size = w.heap.size
 | [], _, _ => rfl
 | v :: r, o, w => by rw [World.setCells, Kp b r]; simp [World.setCell]
theorem Ma (b : Nat) : ∀ (vs : List Value) (o : Nat) (w : World), (w.setCells b o vs).os = w.os
 | [], _, _ => rfl
 | v :: r, o, w => by rw [World.setCells, Ma b r]; rfl
theorem Kq (b : Nat) : ∀ (vs : List Value) (o : Nat) (w : World), (w.setCells b o vs).tape = w.tape
 | [], _, _ => rfl
 | v :: r, o, w => by rw [World.setCells, Kq b r]; rfl
theorem I9 (b : Nat) : ∀ (vs : List Value) (o : Nat) (w : World), (w.setCells b o vs).output = w.output
 | [], _, _ => rfl
 | v :: r, o, w => by rw [World.setCells, I9 b r]; rfl
theorem Jh (b : Nat) : ∀ (vs : List Value) (o : Nat) (w : World) (q : Nat), q ≠ b -> (w.setCells b o vs).heap[q]? = w.heap[q]?
 | [], _, _, _, _ => rfl
 | v :: r, o, w, q, h => by
  rw [World.setCells, Jh b r _ _ q h]
  simp only [World.setCell, Array.getElem?_modify]
  rw [if_neg (fun e => h e.symm)]
variable {P : Program} {ρ : Ren} {AD : A5} {A : BD}
section
variable {α : Type} {enc : α -> List DV} {l r : List α} {i j : Int} {nt : Nat} {sl : List (Nat × LV)} {h h' : AP} {c d : Nat} {f : St -> Prop} {hf : H5 f}
end
end Go.E
/- slices.Sort and slices.Compact of an own row of whole numbers, as calls out of a data state. For rows of fewer than 2^62 numbers. -/
namespace Go.E
open Go Go.RowKit Go.Shelf Go.Proofs Go.Sort
def FE (n : Int) : List DV := [.int .i64 n]
def Qx (x : Int) : List Int -> List Int
 | [] => [x]
 | y :: l => if x <= y then x :: y :: l else y :: Qx x l
def Ig : List Int -> List Int
 | [] => []
 | x :: l => Qx x (Ig l)
theorem Pl (x : Int) : ∀ l, (Qx x l).Perm (x :: l)
 | [] => .refl _
 | y :: l => by
  unfold Qx
  split
  .exact .refl _
  exact ((Pl x l).cons y).trans (.swap x y l)
theorem OK : ∀ l, (Ig l).Perm l
 | [] => .refl _
 | x :: l => (Pl x (Ig l)).trans ((OK l).cons x)
theorem TR (x : Int) : ∀ l, l.Pairwise (· <= ·) -> (Qx x l).Pairwise (· <= ·)
 | [], _ => by simp [Qx]
 | y :: l, h => by
  unfold Qx
  rw [List.pairwise_cons] at h
  split
  .rename_i hxy
   refine List.pairwise_cons.2 ⟨fun z hz => ?_, List.pairwise_cons.2 h⟩
   rcases List.mem_cons.1 hz with rfl | hz
   .exact hxy
   exact Int.le_trans hxy (h.1 z hz)
  rename_i hxy
  refine List.pairwise_cons.2 ⟨fun z hz => ?_, TR x l h.2⟩
  rcases List.mem_cons.1 ((Pl x l).mem_iff.1 hz) with rfl | hz
  .omega
  exact h.1 z hz
theorem R7 : ∀ l, (Ig l).Pairwise (· <= ·)
 | [] => by simp [Ig]
 | x :: l => TR x _ (R7 l)
theorem VM (l : List Int) : l.mergeSort (fun x y => decide (x <= y)) = Ig l := by
 refine List.Perm.eq_of_pairwise (le := fun a b : Int => a <= b) (fun a b _ _ h1 h2 => Int.le_antisymm h1 h2) ?_ (R7 l) ((List.mergeSort_perm _ _).trans (OK l).symm)
 have := List.pairwise_mergeSort (le := fun x y : Int => decide (x <= y)) (by simp; intro a b c; omega) (by simp; omega) l
 simpa using this
def Py (l : List Int) : Option (List Int) := if l.length < 4611686018427387904 then some (Ig l) else none
theorem YL {l r : List Int} (h : Py l = some r) : l.length = r.length := by
 unfold Py at h
 split at h
 .cases h; exact (OK l).length_eq.symm
 cases h
def Tv (l : List Int) : Option (List Int) := if l.length < 4611686018427387904 then some (Lib.compact l) else none
section
variable {P : Program} {ρ : Ren} {AD : A5} {A : BD}
theorem row_holds {O : Nat -> Prop} {w : World} {b o : Nat} {c : Array Value} {e : TypeId} {zs : List Int} {n : Nat} (hb : w.heap[b]? = some (.cells c e (0, 0))) (hc : c.size = o + n) (hn : zs.length <= n)
  (hrel : ∀ (i j : Nat) (x : List DV) (d : DV) (v : Value), (zs.map FE)[i]? = some x -> x[j]? = some d -> c[o + i * 1 + j]? = some v -> As O w v d) : Holds (Value.int .i64) w b o zs.toArray := by
 intro j hj
 have hj' : j < zs.length := by simpa using hj
 have hlt : o + j < c.size := by omega
 have hz : (zs.map FE)[j]? = some (FE zs[j]) := by simp [hj']
 have := hrel j 0 _ (.int .i64 zs[j]) c[o + j] hz rfl (by simp [hlt])
 have key : ∀ u, As O w u (.int .i64 zs[j]) -> u = .int .i64 zs[j] := fun u h => by cases h; rfl
 refine ⟨?_, by simp [World.frozen?, hb]⟩
 rw [Ck hb (Array.getElem?_eq_getElem hlt), key _ this]
 simp [hj']
theorem Xr (hE : BC P AD) (L : Lays.n189 P ρ) {e : Nat} {te : TI} (h3 : AD.tt e = some te) (h1 : te.size = 1) {h : AP} {ctr id : Nat} {zs ys : List Int}
  (hl : AJ id h = some (.row e 1 (zs.map FE))) (hs : Py zs = some ys) {K : LV -> AP -> Nat -> Prop} (hK : K (.p (.tup [])) (BR id (.row e 1 (ys.map FE)) h) ctr) :
  Cy P A h ctr (ρ.f 189) [.lsl id 1 0 zs.length] K := by
 unfold Py at hs
 rw [<- VM] at hs
 split at hs
 .rename_i hlen
  cases hs
  refine ⟨ED L.f189 rfl rfl, fun μ w vs hh hsz hr => ?_⟩
  have hvs : ∃ a, vs = #[a] := by
   obtain ⟨l⟩ := vs
   match l, hsz with
   | [a], _ => exact ⟨a, rfl⟩
  obtain ⟨v0, rfl⟩ := hvs
  have h0 := hr 0 v0 _ rfl rfl
  have htup : ∀ w', Aa (Af A μ (BR id (.row e 1 ((zs.mergeSort fun x y => decide (x <= y)).map FE)) h)) μ w' (.tuple #[]) (.p (.tup [])) := fun w' => .p _ _ (.tup #[] [] rfl (by simp))
  obtain ⟨loc, hm, hz, hel, hrow⟩ := hh.obj id _ hl
  have empty : zs = [] -> ∀ p cap, v0 = .slice p 0 cap -> Calls P (ρ.f 189) #[v0] w fun en w' => ∃ u l h' c' μ', en = .returned u /\ K l h' c' /\ HRel A μ' h' (Fr c') w' /\ Aa (Af A μ' h') μ' w' u l /\ ∀ v x, Aa (Af A μ h) μ w v x -> Aa (Af A μ' h') μ' w' v x := by
   rintro rfl p cap rfl
   refine (Any.slices_Sort_int_none L p cap w).mono ?_
   rintro en w' ⟨rfl, rfl⟩
   have hu : ∀ q, AJ q (BR id (.row e 1 ((([] : List Int).mergeSort fun x y => decide (x <= y)).map FE)) h) = AJ q h := fun q => by
    by_cases hq : q = id
    .subst hq; rw [IY hl, hl]; simp
    rw [DK hq]
   have hmine : Bm μ (BR id (.row e 1 ((([] : List Int).mergeSort fun x y => decide (x <= y)).map FE)) h) = Bm μ h := by
    funext b; simp only [Bm, hu]
   have hown : Af A μ (BR id (.row e 1 ((([] : List Int).mergeSort fun x y => decide (x <= y)).map FE)) h) = Af A μ h := by funext b; simp only [Af, hmine]
   refine ⟨_, _, _, _, μ, rfl, hK, ?_, htup _, fun v x hv => by rw [hown]; exact hv⟩
   refine ⟨fun q o hq => ?_, fun q q' o o' l l' hq hq' => ?_, hh.fresh, fun q o l hq => ?_, hh.size, hh.block, hh.os, hh.tape, hh.output, hh.ext⟩
   .rw [hu] at hq; rw [hown]; exact hh.obj q o hq
   .rw [hu] at hq hq'; exact hh.inj q q' o o' l l' hq hq'
   rw [hu] at hq; exact hh.base q o l hq
  rcases hrow with ⟨hn, hz0⟩ | ⟨hn, c, hblk, hcs, hle, hcm, hrel⟩
  .have hzs : zs = [] := by simpa using hz0
   subst hzs
   generalize hgen : (LV.lsl id 1 0 ([] : List Int).length) = lv at h0
   cases h0 with
   | lsln => exact empty rfl _ _ rfl
   | lsl _ _ _ cap ad loc' hm' hn' hcap hlc had hbk hsp =>
    simp only [LV.lsl.injEq, List.length_nil] at hgen
    obtain ⟨-, -, -, e4⟩ := hgen
    subst e4
    exact empty rfl _ _ rfl
   | _ => cases hgen
  by_cases hne : zs = []
  .subst hne
   generalize hgen : (LV.lsl id 1 0 ([] : List Int).length) = lv at h0
   cases h0 with
   | lsln => exact empty rfl _ _ rfl
   | lsl _ _ _ cap ad loc' hm' hn' hcap hlc had hbk hsp =>
    simp only [LV.lsl.injEq, List.length_nil] at hgen
    obtain ⟨-, -, -, e4⟩ := hgen
    subst e4
    exact empty rfl _ _ rfl
   | _ => cases hgen
  have hpos : 0 < zs.length := List.length_pos_iff.2 hne
  generalize hgen : (LV.lsl id 1 0 zs.length) = lv at h0
  cases h0 with
  | lsl id' off len cap ad loc' hm' hn' hcap hlc had hbk hsp =>
   simp only [LV.lsl.injEq] at hgen
   obtain ⟨e1, e2, e3, e4⟩ := hgen
   subst e1 e3 e4
   rw [hm] at hm'; cases hm'
   have had' := had (by omega)
   simp only [Nat.zero_mul, Nat.add_zero] at had'
   subst had'
   have hlt := (hh.base id _ loc hl hm hn).1
   simp only [List.length_map] at hle
   have hH := row_holds (zs := zs) (o := loc.o) (n := loc.cap) hblk (by rw [hcs]; omega) hle (by rw [<- hz] at hrel ⊢; exact hrel)
   refine (Any.slices_Sort_int L loc.b loc.o cap zs w hH hlt hlen).mono ?_
   rintro en w' ⟨rfl, q, os, rfl⟩
   have hsl : (zs.mergeSort fun x y => decide (x <= y)).length = zs.length := List.length_mergeSort _
   rw [Lib.putRow_eq_setCells (Value.int .i64) w loc.b loc.o zs.toArray (zs.mergeSort fun x y => decide (x <= y)) q hH (by simp [hsl])]
   obtain ⟨c1, k1, k2, k3⟩ := Ik loc.b ((zs.mergeSort fun x y => decide (x <= y)).map (Value.int .i64)) loc.o (w.drewN q) c e hblk (by simp [hsl]; omega)
   have hw := hh.write (w' := (w.drewN q).setCells loc.b loc.o ((zs.mergeSort fun x y => decide (x <= y)).map (Value.int .i64))) (o := .row e 1 ((zs.mergeSort fun x y => decide (x <= y)).map FE)) hl hm hn
    (by rw [Kp]; rfl) (fun b hb => by rw [Jh _ _ _ _ _ hb]; rfl) (by rw [Ma]; rfl) (by rw [Kq]; rfl) (by rw [I9]; rfl)
    ⟨hz, fun y hy => by obtain ⟨n, _, rfl⟩ := List.mem_map.1 hy; rfl, .inr ⟨hn, c1, k1, by rw [k2]; exact hcs, by simpa [hsl] using hle, hcm, fun i j x d v hx hd hv => by
     simp only [List.getElem?_map, Option.map_eq_some_iff] at hx
     obtain ⟨n, hn', rfl⟩ := hx
     have hj : j = 0 := by
      have := (List.getElem?_eq_some_iff.1 hd).1
      simp [FE] at this; omega
     subst hj
     simp only [FE, List.getElem?_cons_zero, Option.some.injEq] at hd
     subst hd
     have hi := (List.getElem?_eq_some_iff.1 hn').1
     rw [k3, if_pos (by simp; omega)] at hv
     rw [show loc.o + i * 1 + 0 - loc.o = i by omega, List.getElem?_map, hn'] at hv
     cases hv
     exact .int _ _⟩⟩
   obtain ⟨w1, w2, w3⟩ := hw
   have hk := w1.keep (w' := grow ((w.drewN q).setCells loc.b loc.o ((zs.mergeSort fun x y => decide (x <= y)).map (Value.int .i64))) os) (h' := BR id (.row e 1 ((zs.mergeSort fun x y => decide (x <= y)).map FE)) h) (μ' := μ) (F' := Fr ctr) (fun _ _ h => h) w1.fresh (fun _ _ h => h)
    (fun b hb => by show (_ ++ os)[b]? = _; rw [Array.getElem?_append_left hb]) (by show _ <= (_ ++ os).size; simp) rfl rfl rfl
   refine ⟨_, _, _, _, μ, rfl, hK, hk.1, htup _, fun v x hv => ?_⟩
   have hv1 := hv.mono w2.own (fun b _ => w3 b) (fun _ _ h => h)
   refine hv1.mono (BJ.mk ?_ ?_) (fun b _ hb => hb) (fun _ _ h => h)
   .show _ <= (_ ++ os).size; simp
   intro b hb _; show (_ ++ os)[b]? = _; rw [Array.getElem?_append_left hb]
  | lsln =>
   simp only [LV.lsl.injEq] at hgen
   obtain ⟨-, -, -, e4⟩ := hgen
   omega
  | _ => cases hgen
 cases hs
theorem Xs (hE : BC P AD) (L : Lays2.n20 P ρ) {e : Nat} {te : TI} (h3 : AD.tt e = some te) (h1 : te.size = 1) {h : AP} {ctr id : Nat} {zs ys : List Int}
  (hl : AJ id h = some (.row e 1 (zs.map FE))) (hs : Tv zs = some ys) {K : LV -> AP -> Nat -> Prop} (hK : K (.lsl ctr 1 0 ys.length) ((ctr, .row e 1 (ys.map FE)) :: Gk id h) (ctr + 1)) :
  Cy P A h ctr (ρ.f 20) [.lsl id 1 0 zs.length] K := by
 unfold Tv at hs
 split at hs
 .rename_i hlen
  cases hs
  refine ⟨ED L.f20 rfl rfl, fun μ w vs hh hsz hr => ?_⟩
  have hvs : ∃ a, vs = #[a] := by
   obtain ⟨l⟩ := vs
   match l, hsz with
   | [a], _ => exact ⟨a, rfl⟩
  obtain ⟨v0, rfl⟩ := hvs
  have h0 := hr 0 v0 _ rfl rfl
  have hno := hh.fresh ctr (Nat.le_refl _)
  have hsub : ∀ (o : BB) q x, AJ q ((ctr, o) :: Gk id h) = some x -> (q = ctr /\ x = o) \/ AJ q h = some x := fun o q x hx => by
   simp only [AJ] at hx
   split at hx
   .cases hx; exact .inl ⟨‹_›, rfl⟩
   exact .inr (F7 hx).2
  have hFr : ∀ q, Fr (ctr + 1) q -> Fr ctr q /\ q ≠ ctr := fun q hq => by simp only [Fr] at hq ⊢; omega
  obtain ⟨loc, hm, hz, hel, hrow⟩ := hh.obj id _ hl
  have hcl : (Lib.compact zs).length <= zs.length := by
   unfold Lib.compact Lib.compactUpTo
   rw [List.length_map]
   exact Nat.le_trans (List.length_filter_le _ _) (by simp)
  generalize hgen : (LV.lsl id 1 0 zs.length) = lv at h0
  cases h0 with
  | lsln id' loc' hm' hn' =>
   simp only [LV.lsl.injEq] at hgen
   obtain ⟨e1, e2, e3, e4⟩ := hgen
   subst e1
   have hzs : zs = [] := List.length_eq_zero_iff.1 e4
   subst hzs
   rw [hm] at hm'; cases hm'
   refine (Any.slices_Compact_int_empty L none 0 w).mono ?_
   rintro en w' ⟨rfl, rfl⟩
   let lc : BQ := ⟨true, 0, 0, 1, 0⟩
   have hadd := hh.add hno lc (.row e 1 []) ((ctr, .row e 1 []) :: Gk id h) (fun h => by cases h) (fun h => by cases h) (hsub _) (BJ.refl _ _) (fun q x l hx hne hm hn => rfl) rfl rfl rfl ⟨rfl, by simp, .inl ⟨rfl, rfl⟩⟩
   exact ⟨_, _, _, _, _, rfl, hK, hadd.less hFr, .lsln ctr lc (by simp [Bn]) rfl, fun v x hv => hv.mono (BJ.refl _ _) (hh.sub_add lc _ _ (fun h => by cases h) (hsub _)) (Jt hno lc)⟩
  | lsl id' off len cap ad loc' hm' hn hcap hlc had hbk hsp =>
   simp only [LV.lsl.injEq] at hgen
   obtain ⟨e1, e2, e3, e4⟩ := hgen
   subst e1 e3 e4
   rw [hm] at hm'; cases hm'
   rcases hrow with ⟨hn', _⟩ | ⟨_, c, hblk, hcs, hle, hcm, hrel⟩
   .rw [hn] at hn'; cases hn'
   have hlt := (hh.base id _ loc hl hm hn).1
   simp only [List.length_map] at hle
   simp only [Nat.zero_add] at hcap
   have fin : ∀ (w' : World) (c' : Array Value), w'.heap[loc.b]? = some (.cells c' e (0, 0)) -> c'.size = c.size -> w'.heap.size = w.heap.size -> (∀ b, b ≠ loc.b -> w'.heap[b]? = w.heap[b]?) -> w'.os = w.os -> w'.tape = w.tape -> w'.output = w.output ->
     (∀ i n, (Lib.compact zs)[i]? = some n -> c'[loc.o + i]? = some (.int .i64 n)) ->
     ∃ u l h' cc μ', Ending.returned (.slice (some ad) (Lib.compact zs).length cap) = .returned u /\ K l h' cc /\ HRel A μ' h' (Fr cc) w' /\ Aa (Af A μ' h') μ' w' u l /\ ∀ v x, Aa (Af A μ h) μ w v x -> Aa (Af A μ' h') μ' w' v x := by
    intro w' c' hw' hc' hwsz hoth hos htape hout hval
    let lc : BQ := ⟨false, loc.b, loc.o, 1, cap⟩
    have hdead : AJ id ((ctr, BB.row e 1 ((Lib.compact zs).map FE)) :: Gk id h) = none := by
     simp only [AJ]
     rw [if_neg (fun e => by subst e; rw [hm] at hno; cases hno)]
     exact F8
    have hfresh : NW μ h ((ctr, BB.row e 1 ((Lib.compact zs).map FE)) :: Gk id h) w lc := fun _ => .inr ⟨id, _, loc, hl, hdead, hm, hn, rfl⟩
    have hkept : BJ (Bm μ h) w w' := ⟨by omega, fun b _ hmine => hoth b fun e => hmine ⟨id, _, loc, hl, hm, hn, e.symm⟩⟩
    have hs := hh.sub_add lc _ _ hfresh (hsub _)
    have hadd := hh.add hno lc _ _ (w' := w') (fun _ => by rw [hwsz]; exact hlt) hfresh (hsub _) hkept (fun q x l hx hne hmq hnq => by
     simp only [AJ] at hx
     rw [if_neg hne] at hx
     obtain ⟨h7, h8⟩ := F7 hx
     exact hoth _ fun e => h7 (hh.inj _ _ _ _ _ _ h8 hl hmq hm hnq hn e)) hos htape hout ⟨rfl, fun y hy => by obtain ⟨n, _, rfl⟩ := List.mem_map.1 hy; rfl, .inr ⟨rfl, c', hw', by rw [hc', hcs]; simp only [lc]; rw [hcap], by simp only [List.length_map, lc]; omega, by simp only [lc]; omega, fun q m y d v hy hd hv => by
      simp only [lc] at hv
      simp only [List.getElem?_map, Option.map_eq_some_iff] at hy
      obtain ⟨n, hn', rfl⟩ := hy
      have hj : m = 0 := by
       have := (List.getElem?_eq_some_iff.1 hd).1
       simp [FE] at this; omega
      subst hj
      simp only [FE, List.getElem?_cons_zero, Option.some.injEq] at hd
      subst hd
      rw [show loc.o + q * 1 + 0 = loc.o + q by omega, hval q n hn'] at hv
      cases hv
      exact .int _ _⟩⟩
    refine ⟨_, _, _, _, _, rfl, hK, hadd.less hFr, ?_, fun v x hv => hv.mono hkept.own hs (Jt hno lc)⟩
    refine .lsl ctr 0 _ cap ad lc (by simp [Bn]) rfl (by simp [lc]) (by omega) (fun h0 => ?_) hbk hsp
    rw [had h0]; simp [lc]
   by_cases hne : zs = []
   .subst hne
    refine (Any.slices_Compact_int_empty L (some ad) cap w).mono ?_
    rintro en w' ⟨rfl, rfl⟩
    exact fin w' c hblk rfl rfl (fun _ _ => rfl) rfl rfl rfl (fun i n hi => by simp [Lib.compact, Lib.compactUpTo] at hi)
   have hpos : 0 < zs.length := List.length_pos_iff.2 hne
   have had' := had (by omega)
   simp only [Nat.zero_mul, Nat.add_zero] at had'
   subst had'
   have hH := row_holds (zs := zs) (o := loc.o) (n := loc.cap) hblk (by rw [hcs]; omega) hle (by rw [<- hz] at hrel ⊢; exact hrel)
   refine (Any.slices_Compact_int L loc.b loc.o cap zs w hH (by omega) (by omega)).mono ?_
   rintro en w' ⟨rfl, q, rfl⟩
   have hyl : (Lib.compact zs ++ List.replicate (zs.length - (Lib.compact zs).length) (0 : Int)).length = zs.length := by simp; omega
   rw [Lib.putRow_eq_setCells (Value.int .i64) w loc.b loc.o zs.toArray (Lib.compact zs ++ List.replicate (zs.length - (Lib.compact zs).length) (0 : Int)) q hH (by simpa using hyl)]
   obtain ⟨c1, k1, k2, k3⟩ := Ik loc.b ((Lib.compact zs ++ List.replicate (zs.length - (Lib.compact zs).length) (0 : Int)).map (Value.int .i64)) loc.o (w.drewN q) c e hblk (by rw [List.length_map, hyl]; omega)
   refine fin _ c1 k1 k2 (by rw [Kp]; rfl) (fun b hb => by rw [Jh _ _ _ _ _ hb]; rfl) (by rw [Ma]; rfl) (by rw [Kq]; rfl) (by rw [I9]; rfl) fun i n hi => ?_
   have hil := (List.getElem?_eq_some_iff.1 hi).1
   rw [k3, if_pos (by rw [List.length_map, hyl]; omega), Nat.add_sub_cancel_left, List.getElem?_map, List.getElem?_append_left hil, hi]
   rfl
  | _ => cases hgen
 cases hs
end
section
variable {P : Program} {ρ : Ren} {AD : A5} {A : BD} {l r : List Int} {nt : Nat} {sl : List (Nat × LV)} {h h' : AP} {c d : Nat} {f : St -> Prop} {hf : H5 f}
theorem ABD (hE : BC P AD) {k : Nat} (L : Lays.n189 P ρ) (hk : ρ.f 189 = k) {t e : Nat} {fo : Operand} {args : Array Operand} {ts : Array TypeId} {id n : Nat} {enc : Int -> List DV} (henc : enc = FE)
  (hr : Py l = some r) (hl : Bf id h = some (.row e 1 (l.map enc))) (hn : n = l.length) (hd : BR id (.row e 1 (r.map enc)) h = h') (ht : UP AD t e 1 = true)
  (hfn : BF nt sl fo = .fn k []) (ha : EW nt sl args.toList some = some [.lsl id 1 0 n])
  (kk : f ⟨nt, (d, .p (.tup [])) :: sl, h', c⟩) : BE P A AD ⟨nt, sl, h, c⟩ (some d) (.call ⟨.value fo, args, ts⟩) ⟨f, hf⟩ := by
 obtain ⟨ti, te, h1, h2, h3, h4, h5, h6⟩ := SP ht
 rw [BH (h := h) (c := c)] at hfn
 rw [BM] at hl
 subst henc hn hd hk
 show ON _ _
 rw [hfn]
 show Jy P A h c _ (args.toList.map _ ++ []) _
 rw [Io ha, List.append_nil]
 exact Xr hE L h3 h4 hl hr kk
theorem ABE (hE : BC P AD) {k : Nat} (L : Lays2.n20 P ρ) (hk : ρ.f 20 = k) {t e : Nat} {fo : Operand} {args : Array Operand} {ts : Array TypeId} {id n : Nat} {enc : Int -> List DV} (henc : enc = FE)
  (hr : Tv l = some r) (hl : Bf id h = some (.row e 1 (l.map enc))) (hn : n = l.length) (hd : SO id h some = some h') (ht : UP AD t e 1 = true)
  (hfn : BF nt sl fo = .fn k []) (ha : EW nt sl args.toList some = some [.lsl id 1 0 n])
  (kk : f ⟨nt, (d, .lsl c 1 0 r.length) :: sl, (c, .row e 1 (r.map enc)) :: h', c + 1⟩) : BE P A AD ⟨nt, sl, h, c⟩ (some d) (.call ⟨.value fo, args, ts⟩) ⟨f, hf⟩ := by
 obtain ⟨ti, te, h1, h2, h3, h4, h5, h6⟩ := SP ht
 rw [BH (h := h) (c := c)] at hfn
 rw [Pu, Option.some.injEq] at hd
 rw [BM] at hl
 subst henc hn hd hk
 show ON _ _
 rw [hfn]
 show Jy P A h c _ (args.toList.map _ ++ []) _
 rw [Io ha, List.append_nil]
 exact Xs hE L h3 h4 hl hr kk
end
end Go.E
/- Arrays in variables, told by lists of a fixed length. No condition. -/
namespace Go.E
open Go Go.RowKit
section
variable {P : Program} {A : BD} {AD : A5} {f : St -> Prop} {hf : H5 f} {nt : Nat} {sl : List (Nat × LV)} {h : AP} {c d : Nat} {α : Type} {l : List α} {x : Operand} {t : Nat}
end
end Go.E
/- A scope in which the run jumps back to one label, and on to another. No condition. -/
namespace Go.E
open Go Go.RowKit
section
variable {P : Program} {A : BD} {st : St} {σ Ans : Type}
end
def ME {α : Type} (l : List α) (lo hi : Int) : Option (List α) := Kx l lo hi
theorem Uk {α : Type} {l r : List α} {lo hi : Int} (h : ME l lo hi = some r) : lo.toNat + (hi - lo).toNat <= l.length /\ (l.drop lo.toNat).take (hi - lo).toNat = r := by
 unfold ME Kx at h
 split at h
 .rename_i hb
  cases h
  refine ⟨by omega, ?_⟩
  rw [List.drop_take]
  congr 1
  omega
 cases h
section
variable {P : Program} {A : BD} {AD : A5} {α : Type} {enc : α -> List DV} {l r : List α} {nt : Nat} {sl : List (Nat × LV)} {h : AP} {c d : Nat} {f : St -> Prop} {hf : H5 f} {x : Operand} {t sz : Nat}
theorem Zx {lo hi : Option Operand} {n m : Int} {id k : Nat} (hr : ME l n m = some r) (ht : Nt AD t sz = true) (hk : k = l.length) (hx : BF nt sl x = .lsl id sz 0 k)
  (hlo : O8 nt sl 0 lo = some n) (hhi : O8 nt sl l.length hi = some m)
  (kk : f ⟨nt, (d, .lsl id sz n.toNat (m - n).toNat) :: sl, h, c⟩) : BE P A AD ⟨nt, sl, h, c⟩ (some d) (.slice t x lo hi none) ⟨f, hf⟩ := by
 obtain ⟨ti, e, te, h1, h2, h3, h4⟩ := Nu ht
 have hs : Kx l n m = some r := hr
 subst hk
 rw [BH (h := h) (c := c)] at hx
 simp only [Kx] at hs
 split at hs
 .rename_i hb
  show LR AD t _ _ _ _
  rw [hx]
  refine AR.2 ⟨ti, h1, B5.2 ⟨e, h2, AR.2 ⟨te, h3, h4, .inr rfl, ?_⟩⟩⟩
  refine Pt hhi (Pt hlo ⟨hb, ?_⟩)
  rw [Nat.zero_add]; exact kk
 cases hs
end
end Go.E
/- Af rows cut short; nil cells of own boxes; functions that call themselves. No condition. -/
namespace Go.E
open Go Go.RowKit
section
variable {A : BD} {μ : Nat -> Option BQ} {h : List (Nat × BB)} {F : Nat -> Prop} {w : World}
theorem HRel.swap (hh : HRel A μ h F w) {id : Nat} {o o' : BB} (hx : AJ id h = some o) (hor : ∀ loc, μ id = some loc -> Cv (Af A μ h) μ w loc o -> Cv (Af A μ h) μ w loc o') :
  HRel A μ (BR id o' h) F w /\ ∀ b, Af A μ (BR id o' h) b -> Af A μ h b := by
 have hlook : ∀ j y, AJ j (BR id o' h) = some y -> (j = id /\ y = o') \/ (j ≠ id /\ AJ j h = some y) := by
  intro j y hy
  by_cases e : j = id
  .subst e; rw [IY hx] at hy; cases hy; exact .inl ⟨rfl, rfl⟩
  rw [DK e] at hy; exact .inr ⟨e, hy⟩
 have hmine : ∀ b, Bm μ (BR id o' h) b -> Bm μ h b := by
  rintro b ⟨j, y, lc, h1, h2, h3, h4⟩
  rcases hlook j y h1 with ⟨rfl, rfl⟩ | ⟨_, h1⟩
  .exact ⟨j, o, lc, hx, h2, h3, h4⟩
  exact ⟨j, y, lc, h1, h2, h3, h4⟩
 have hown : ∀ b, Af A μ (BR id o' h) b -> Af A μ h b := fun b hb => hb.imp (fun h => h) (hmine b)
 have f : ∀ j y, AJ j (BR id o' h) = some y -> ∃ y, AJ j h = some y := by
  intro j y hy
  rcases hlook j y hy with ⟨rfl, rfl⟩ | ⟨_, hy⟩
  .exact ⟨_, hx⟩
  exact ⟨_, hy⟩
 refine ⟨⟨?_, ?_, hh.fresh, ?_, hh.size, hh.block, hh.os, hh.tape, hh.output, hh.ext⟩, hown⟩
 .intro j y hy
  rcases hlook j y hy with ⟨rfl, rfl⟩ | ⟨e, hy⟩
  .obtain ⟨lc, h1, h2⟩ := hh.obj j o hx
   exact ⟨lc, h1, (hor lc h1 h2).mono (BJ.refl _ _) (fun b _ hb => hown b hb) (fun _ _ h => h) fun _ => rfl⟩
  obtain ⟨lc, h1, h2⟩ := hh.obj j y hy
  exact ⟨lc, h1, h2.mono (BJ.refl _ _) (fun b _ hb => hown b hb) (fun _ _ h => h) fun _ => rfl⟩
 .intro j j' y y' lc lc' h1 h2 m1 m2 n1 n2 he
  obtain ⟨z, hz⟩ := f j y h1
  obtain ⟨z', hz'⟩ := f j' y' h2
  exact hh.inj _ _ _ _ _ _ hz hz' m1 m2 n1 n2 he
 intro j y lc h1 m1 n1
 obtain ⟨z, hz⟩ := f j y h1
 exact hh.base _ _ _ hz m1 n1
end
section
variable {A : BD} {nt : Nat} {sl : List (Nat × LV)} {h h' : AP} {c : Nat}
theorem Yn {id : Nat} {o o' : BB} (hx : AJ id h = some o) (hor : ∀ O μ w loc, Cv O μ w loc o -> Cv O μ w loc o') : A9 A ⟨nt, sl, h, c⟩ ⟨nt, sl, BR id o' h, c⟩ := fun a w ⟨⟨μ, hh, hr⟩, hnt, hdef⟩ => by
 obtain ⟨g1, g2⟩ := hh.swap hx (o' := o') fun loc _ => hor _ _ _ loc
 exact ⟨⟨μ, g1, fun t ht => (hr t ht).mono (BJ.refl _ _) (fun b _ hb => g2 b hb) fun _ _ h => h⟩, hnt, hdef⟩
theorem Jj {α : Type} {enc : α -> List DV} (id : Nat) {e sz : Nat} {l r : List α} {m : Int} (hr : ME l 0 m = some r) (hl : Bf id h = some (.row e sz (l.map enc)))
  (hu : Km id (.row e sz (r.map enc)) h some = some h') : A9 A ⟨nt, sl, h, c⟩ ⟨nt, sl, h', c⟩ := by
 rw [BM] at hl
 rw [GY, Option.some.injEq] at hu
 subst hu
 refine Yn hl fun O μ w loc ⟨h1, h2, h3⟩ => ?_
 obtain ⟨-, hr⟩ := Uk hr
 have hk : r = l.take (m - 0).toNat := by rw [<- hr]; rfl
 generalize (m - 0).toNat = k at hk
 subst hk
 refine ⟨h1, fun x hx => h2 x ?_, ?_⟩
 .obtain ⟨a, ha, rfl⟩ := List.mem_map.1 hx
  exact List.mem_map.2 ⟨a, List.mem_of_mem_take ha, rfl⟩
 rcases h3 with ⟨h3, h4⟩ | ⟨h3, cs, h4, h5, h6, h7, h8⟩
 .refine .inl ⟨h3, ?_⟩
  rw [List.map_take, h4]; simp
 refine .inr ⟨h3, cs, h4, h5, ?_, h7, fun i j x d v hx => h8 i j x d v ?_⟩
 .rw [List.length_map] at h6 ⊢
  rw [List.length_take]; omega
 rw [List.map_take, List.getElem?_take] at hx
 split at hx
 .exact hx
 cases hx
theorem CP (id j e sz : Nat) {cells cells' : List LV} (hl : Bf id h = some (.box cells)) (hj : cells[j]? = some (.p .nils)) (hc : cells.set j (.lsl c sz 0 0) = cells')
  (hu : Km id (.box cells') h some = some h') : A9 A ⟨nt, sl, h, c⟩ ⟨nt, sl, (c, .row e sz []) :: h', c + 1⟩ := fun a w ⟨⟨μ, hh, hr⟩, hnt, hdef⟩ => by
 rw [BM] at hl
 rw [GY, Option.some.injEq] at hu
 subst hu hc
 have hno := hh.fresh c (Nat.le_refl _)
 let loc : BQ := ⟨true, 0, 0, sz, 0⟩
 have hsub : ∀ id x, AJ id ((c, BB.row e sz []) :: h) = some x -> (id = c /\ x = .row e sz []) \/ AJ id h = some x := by
  intro id x hx
  simp only [AJ] at hx
  split at hx
  .cases hx; exact .inl ⟨‹_›, rfl⟩
  exact .inr hx
 have hadd := hh.add hno loc (.row e sz []) ((c, .row e sz []) :: h) (fun hn => by cases hn) (fun hn => by cases hn) hsub (BJ.refl _ _) (fun _ _ _ _ _ _ _ => rfl) rfl rfl rfl ⟨rfl, by simp, .inl ⟨rfl, rfl⟩⟩
 have hown := hh.sub_add loc (.row e sz []) ((c, .row e sz []) :: h) (fun hn => by cases hn) hsub
 have hadd' := hadd.less (F' := Fr (c + 1)) fun id hid => by simp only [Fr] at hid ⊢; omega
 have hne : id ≠ c := hh.live_ne hno hl
 have hl' : AJ id ((c, BB.row e sz []) :: h) = some (.box cells) := by simp only [AJ, if_neg hne]; exact hl
 obtain ⟨g1, g2⟩ := hadd'.swap hl' (o' := .box (cells.set j (.lsl c sz 0 0))) fun lc _ ⟨k1, cs, t, k2, k3, k4⟩ => by
  refine ⟨k1, cs, t, k2, by rw [List.length_set]; exact k3, fun i v l hv hl => ?_⟩
  rw [List.getElem?_set] at hl
  split at hl
  .split at hl
   .cases hl
    subst_vars
    have := k4 _ v _ hv hj
    rw [this.nils_inv]
    exact .lsln c loc (by simp [Bn]) rfl
   cases hl
  exact k4 i v l hv hl
 have hup : BR id (.box (cells.set j (.lsl c sz 0 0))) ((c, BB.row e sz []) :: h) = (c, .row e sz []) :: BR id (.box (cells.set j (.lsl c sz 0 0))) h := by
  simp only [BR, if_neg hne]
 rw [hup] at g1 g2
 exact ⟨⟨_, g1, fun u hu => (hr u hu).mono (BJ.refl _ _) (fun b hb hb' => hown b hb (g2 b hb')) (Jt hno loc)⟩, hnt, hdef⟩
end
section
variable {P : Program} {A : BD} {AD : A5} {α : Type} {enc : α -> List DV} {l r : List α} {nt : Nat} {sl : List (Nat × LV)} {h : AP} {c d : Nat} {f : St -> Prop} {hf : H5 f} {x : Operand} {t sz : Nat}
theorem RZ {hi : Option Operand} {m : Int} {id k : Nat} (hr : ME l 0 m = some r) (ht : Nt AD t sz = true) (hk : k = l.length) (hx : BF nt sl x = .lsl id sz 0 k)
  (hhi : O8 nt sl l.length hi = some m)
  (kk : f ⟨nt, (d, .lsl id sz 0 r.length) :: sl, h, c⟩) : BE P A AD ⟨nt, sl, h, c⟩ (some d) (.slice t x none hi none) ⟨f, hf⟩ := by
 refine Zx (lo := none) hr ht hk hx rfl hhi ?_
 have e : (m - 0).toNat = r.length := by
  obtain ⟨h1, h2⟩ := Uk hr
  rw [<- h2]
  simp at h1 ⊢; omega
 rw [e]
 exact kk
end
section
variable (id : Nat) (src d : LV)
mutual
inductive Ph : LV -> LV -> Prop
 | same (v : LV) : Ph v v
 | hit : Ph src d
 | nil (z : Nat) : Ph (.p .nils) (.p (.slice z []))
 | agg {a b : List LV} : P6 a b -> Ph (.agg a) (.agg b)
inductive P6 : List LV -> List LV -> Prop
 | nil : P6 [] []
 | cons {x y : LV} {a b : List LV} : Ph x y -> P6 a b -> P6 (x :: a) (y :: b)
end
inductive Qu (sl : List (Nat × LV)) : List (Nat × LV) -> Prop
 | nil : Qu sl []
 | cons (t : Nat) {v : LV} {r : List (Nat × LV)} : Ph src d (BZ sl t) v -> Qu sl r -> Qu sl ((t, v) :: r)
inductive Xp : BB -> BB -> Prop
 | same (o : BB) : Xp o o
 | box {a b : List LV} : P6 src d a b -> Xp (.box a) (.box b)
inductive Qv (h : AP) : AP -> Prop
 | nil : Qv h []
 | cons (i : Nat) {o o' : BB} {r : AP} (hne : Nat.beq i id = false) (hl : Bf i h = some o) : Xp src d o o' -> Qv h r -> Qv h ((i, o') :: r)
end
section
variable {A : BD} {nt : Nat} {sl sl' : List (Nat × LV)} {h h' : AP} {c : Nat} {id : Nat} {src d : LV}
mutual
theorem VL {O O' : Nat -> Prop} {μ μ' : Nat -> Option BQ} {w : World} (hμ : ∀ id l, μ id = some l -> μ' id = some l) (hO : ∀ b, b < w.heap.size -> O' b -> O b) (hd : ∀ v, Aa O μ w v src -> Aa O' μ' w v d) : ∀ {x y : LV}, Ph src d x y -> ∀ v, Aa O μ w v x -> Aa O' μ' w v y
 | _, _, .same _, v, h => h.mono (BJ.refl _ _) hO hμ
 | _, _, .hit, v, h => hd v h
 | _, _, .nil z, v, h => by
  rw [h.nils_inv]
  exact .p _ _ (.snil z)
 | _, _, .agg (a := ls) (b := b) q, v, h => by
  cases h with
  | agg vs _ hsz hr =>
   obtain ⟨g1, g2⟩ := Pi hμ hO hd q
   exact .agg vs _ (by omega) fun i v l hv hl => by
    have hi := (List.getElem?_eq_some_iff.1 hl).1
    obtain ⟨x, hx⟩ : ∃ x, ls[i]? = some x := ⟨ls[i]'(by omega), List.getElem?_eq_getElem _⟩
    exact g2 i x l hx hl v (hr i v x hv hx)
theorem Pi {O O' : Nat -> Prop} {μ μ' : Nat -> Option BQ} {w : World} (hμ : ∀ id l, μ id = some l -> μ' id = some l) (hO : ∀ b, b < w.heap.size -> O' b -> O b) (hd : ∀ v, Aa O μ w v src -> Aa O' μ' w v d) : ∀ {a b : List LV}, P6 src d a b -> a.length = b.length /\ ∀ (i : Nat) (x y : LV), a[i]? = some x -> b[i]? = some y -> ∀ v, Aa O μ w v x -> Aa O' μ' w v y
 | _, _, .nil => ⟨rfl, fun i x y h => by simp at h⟩
 | _, _, .cons q r => by
  obtain ⟨g1, g2⟩ := Pi hμ hO hd r
  refine ⟨by simp [g1], fun i x y hx hy => ?_⟩
  cases i with
  | zero => simp at hx hy; subst hx hy; exact VL hμ hO hd q
  | succ i => exact g2 i x y (by simpa using hx) (by simpa using hy)
end
theorem TO : ∀ {sl' : List (Nat × LV)}, Qu src d sl sl' -> ∀ t l, AJ t sl' = some l -> Ph src d (BZ sl t) l
 | _, .nil, t, l, h => by simp [AJ] at h
 | _, .cons u q r, t, l, h => by
  simp only [AJ] at h
  split at h
  .cases h; subst_vars; exact q
  exact TO r t l h
theorem TP : ∀ {h' : AP}, Qv id src d h h' -> ∀ i o', AJ i h' = some o' -> i ≠ id /\ ∃ o, AJ i h = some o /\ Xp src d o o'
 | _, .nil, i, o, h => by simp [AJ] at h
 | _, .cons u hne hl q r, i, o, h => by
  simp only [AJ] at h
  split at h
  .cases h; subst_vars
   rw [BM] at hl
   exact ⟨fun e => by subst e; simp at hne, _, hl, q⟩
  exact TP r i o h
theorem TQ (id : Nat) {d0 : DV} (hd : ∀ μ w (O' : Nat -> Prop), HRel A μ h (Fr c) w -> (∀ b, O' b -> Af A μ (B6 [id] h) b) -> ∀ v, Aa (Af A μ h) μ w v src -> As O' w v d0) (hs : Qu src (.p d0) sl sl') (hh : Qv id src (.p d0) h h') : A9 A ⟨nt, sl, h, c⟩ ⟨nt, sl', h', c⟩ := fun a w ⟨⟨μ, hR, hr⟩, hnt, hdef⟩ => by
 have hlk := fun i o' => TP hh i o'
 have hmine : ∀ b, Bm μ h' b -> Bm μ (B6 [id] h) b := by
  rintro b ⟨j, y, lc, h1, h2, h3, h4⟩
  obtain ⟨g1, o, g2, -⟩ := hlk j y h1
  refine ⟨j, o, lc, ?_, h2, h3, h4⟩
  show AJ j (Gk id h) = some o
  rw [FN g1]; exact g2
 have hown1 : ∀ b, Af A μ h' b -> Af A μ (B6 [id] h) b := fun b hb => hb.imp (fun h => h) (hmine b)
 have hown : ∀ b, Af A μ h' b -> Af A μ h b := fun b hb => Fq b (hown1 b hb)
 have hp : ∀ v, Aa (Af A μ h) μ w v src -> Aa (Af A μ h') μ w v (.p d0) := fun v hv => .p _ _ (hd μ w _ hR hown1 v hv)
 refine ⟨⟨μ, ⟨?_, ?_, hR.fresh, ?_, hR.size, hR.block, hR.os, hR.tape, hR.output, hR.ext⟩, fun t ht => ?_⟩, hnt, hdef⟩
 .intro j o' hj
  obtain ⟨g1, o, g2, q⟩ := hlk j o' hj
  obtain ⟨lc, h1, h2⟩ := hR.obj j o g2
  refine ⟨lc, h1, ?_⟩
  cases q with
  | same _ => exact h2.mono (BJ.refl _ _) (fun b _ hb => hown b hb) (fun _ _ h => h) fun _ => rfl
  | box q =>
   obtain ⟨k1, cs, ty, k2, k3, k4⟩ := h2
   obtain ⟨q1, q2⟩ := Pi (O' := Af A μ h') (w := w) (fun _ _ h => h) (fun b _ hb => hown b hb) hp q
   refine ⟨k1, cs, ty, k2, by omega, fun i v l hv hl => ?_⟩
   have hi := (List.getElem?_eq_some_iff.1 hl).1
   rename_i a b
   have hx : a[i]? = some (a[i]'(by omega)) := List.getElem?_eq_getElem _
   exact q2 i _ l hx hl v (k4 i v _ hv hx)
 .intro j j' y y' lc lc' h1 h2 m1 m2 n1 n2 he
  obtain ⟨-, z, hz, -⟩ := hlk j y h1
  obtain ⟨-, z', hz', -⟩ := hlk j' y' h2
  exact hR.inj _ _ _ _ _ _ hz hz' m1 m2 n1 n2 he
 .intro j y lc h1 m1 n1
  obtain ⟨-, z, hz, -⟩ := hlk j y h1
  exact hR.base _ _ _ hz m1 n1
 show Aa _ _ _ _ (match AJ t sl' with | some v => v | none => .any)
 cases hl : AJ t sl' with
 | none => exact .any _
 | some l => exact VL (fun _ _ h => h) (fun b _ hb => hown b hb) hp (TO hs t l hl) _ (hr t ht)
theorem Il (id : Nat) {d0 : DV} (hd : FG h src = some d0 /\ Iy src = [id]) (hs : Qu src (.p d0) sl sl') (hh : Qv id src (.p d0) h h') : A9 A ⟨nt, sl, h, c⟩ ⟨nt, sl', h', c⟩ :=
 TQ id (fun μ w O' hR hown v hv => (L3 hR (l := [id]) hv hd.1 (by rw [hd.2]; simp)).mono (BJ.refl _ _) fun b _ hb => hown b hb) hs hh
theorem Zp {O : Nat -> Prop} {μ : Nat -> Option BQ} {w : World} {v : Value} {id sz off n : Nat} (h : Aa O μ w v (.lsl id sz off n)) : ∃ loc, μ id = some loc := by
 cases h with
 | lsln _ loc hm hn => exact ⟨loc, hm⟩
 | lsl _ _ _ cap a loc hm => exact ⟨loc, hm⟩
theorem E1 (hs : Qu (.lsl c 0 0 0) (.p .nils) sl sl') (hh : Qv c (.lsl c 0 0 0) (.p .nils) h h') : A9 A ⟨nt, sl, h, c⟩ ⟨nt, sl', h', c⟩ :=
 TQ c (fun μ w O' hR hown v hv => by
  have hno := hR.fresh c (Nat.le_refl _)
  obtain ⟨loc, hm⟩ := Zp hv
  rw [hno] at hm; cases hm) hs hh
theorem Lm {α : Type} {enc : α -> List DV} {l : List α} {e : Nat} {sz : Nat} (hl : Bf id h = some (.row e sz (l.map enc))) : FG h (.lsl id sz 0 l.length) = some (.slice sz (l.map enc)) /\ Iy (.lsl id sz 0 l.length) = [id] := by
 refine ⟨?_, rfl⟩
 rw [BM] at hl
 simp only [FG, hl, Nat.zero_add, List.length_map, Nat.le_refl, and_self, if_true, List.drop_zero]
 rw [List.take_of_length_le (by simp)]
end
section
variable {P : Program} {A : BD} {AD : A5}
theorem Cy.ownF {h : AP} {ctr k : Nat} {args : List LV} {ds : List DV} {e sz : Nat} {elems : List (List DV)} {K : LV -> AP -> Nat -> Prop} (hds : By h args = some ds) (hf : G5 P k ds e sz elems)
  (hfl : ∀ x ∈ elems, ∀ d ∈ x, d.flat = true) (hK : K (.lsl ctr sz 0 elems.length) ((ctr, .row e sz elems) :: h) (ctr + 1)) : Cy P A h ctr k args K := by
 refine ⟨hf.enters, fun μ w vs hh hsz hr => ?_⟩
 obtain ⟨g1, g2⟩ := E7 hh (l := args.flatMap (ET h)) hds (fun id hid => hid)
 generalize args.flatMap (ET h) = dl at g2
 have hO : ∀ b, Af A μ (B6 dl h) b -> b < w.heap.size := by
  intro b hb
  rcases Fq b hb with hb | ⟨id, x, lc, h1, h2, h3, rfl⟩
  .exact Nat.lt_of_lt_of_le (A.hO b hb).1 hh.size
  exact (hh.base id x lc h1 h2 h3).1
 refine (hf.run (Af A μ (B6 dl h)) w vs hO (by omega) fun i v d hv hd => ?_).mono fun en w' ⟨v, he, hn, hb⟩ => ?_
 .have hi := (List.getElem?_eq_some_iff.1 hd).1
  have hx : args[i]? = some (args[i]'(by omega)) := List.getElem?_eq_getElem _
  exact g2 i v _ d hx hd (hr i v _ hv hx)
 have hno : μ ctr = none := hh.fresh ctr (Nat.le_refl _)
 obtain ⟨hlen, hn⟩ := hn
 have hkm : BJ (Bm μ h) w w' := ⟨hb.size, fun b hb' _ => hb.block b hb'⟩
 have hsub : ∀ id x, AJ id ((ctr, BB.row e sz elems) :: h) = some x -> (id = ctr /\ x = .row e sz elems) \/ AJ id h = some x := by
  intro id x hx
  simp only [AJ] at hx
  split at hx
  .cases hx; exact .inl ⟨‹_›, rfl⟩
  exact .inr hx
 have hold : ∀ id x lc, AJ id ((ctr, BB.row e sz elems) :: h) = some x -> id ≠ ctr -> μ id = some lc -> lc.nil = false -> w'.heap[lc.b]? = w.heap[lc.b]? := by
  intro id x lc hx hne hm hnl
  rcases hsub id x hx with ⟨rfl, _⟩ | hx
  .exact absurd rfl hne
  exact hb.block _ (hh.base id x lc hx hm hnl).1
 have fin : ∀ (loc : BQ), (loc.nil = false -> loc.b < w'.heap.size /\ w.heap.size <= loc.b) ->
   (∀ O' : Nat -> Prop, Cv O' (Bn μ ctr loc) w' loc (.row e sz elems)) ->
   (∀ O', Aa O' (Bn μ ctr loc) w' v (.lsl ctr sz 0 elems.length)) ->
   ∃ u l h' c' μ', en = .returned u /\ K l h' c' /\ HRel A μ' h' (Fr c') w' /\ Aa (Af A μ' h') μ' w' u l /\ ∀ v x, Aa (Af A μ h) μ w v x -> Aa (Af A μ' h') μ' w' v x := by
  intro loc hloc ho hu
  have hfr : NW μ h ((ctr, BB.row e sz elems) :: h) w loc := fun hn => .inl (hloc hn).2
  have hown := hh.sub_add loc (.row e sz elems) ((ctr, .row e sz elems) :: h) hfr hsub
  have hadd := hh.add (w' := w') hno loc (.row e sz elems) ((ctr, .row e sz elems) :: h) (fun hn => (hloc hn).1) hfr hsub hkm hold hb.os hb.tape hb.output (ho _)
  exact ⟨v, _, _, _, _, he, hK, hadd.less (fun id hid => by simp only [Fr] at hid ⊢; omega), hu _, fun v x hv => hv.mono hkm.own hown (Jt hno loc)⟩
 rcases hn with ⟨rfl, rfl⟩ | ⟨a, b, o, cap, c, rfl, h1, h2, h3, h4, h5, h6, h7, h8, h9, h10⟩
 .exact fin ⟨true, 0, 0, sz, 0⟩ (fun hn => by cases hn) (fun O' => ⟨rfl, hlen, .inl ⟨rfl, rfl⟩⟩) (fun O' => .lsln ctr ⟨true, 0, 0, sz, 0⟩ (by simp [Bn]) rfl)
 refine fin ⟨false, b, o, sz, cap⟩ (fun _ => ⟨h2, h1⟩) (fun O' => ⟨rfl, hlen, .inr ⟨rfl, c, h6, h7, h8, h9, fun i j x d u hx hd hu => ?_⟩⟩) (fun O' => ?_)
 .exact (h10 i j x d u hx hd hu).flat (hfl x (List.mem_of_getElem? hx) d (List.mem_of_getElem? hd)) _ _
 exact .lsl ctr 0 elems.length cap a ⟨false, b, o, sz, cap⟩ (by simp [Bn]) rfl (by simp) h8 (fun hc => by rw [h3 hc]; simp) h4 h5
end
section
variable {P : Program} {A : BD} {AD : A5} {α : Type} {enc : α -> List DV} {nt : Nat} {sl : List (Nat × LV)} {h : AP} {c d : Nat} {f : St -> Prop} {hf : H5 f}
theorem N2 {fo : Operand} {args : Array Operand} {ts : Array TypeId} {k e sz : Nat} {caps ls : List LV} {ds : List DV} {r : List α} (hF : G5 P k ds e sz (r.map enc)) (hfl : ∀ x : α, (enc x).all (·.flat) = true)
  (hfn : BF nt sl fo = .fn k caps) (hl : EW nt sl args.toList some = some ls) (hds : By h (ls ++ caps) = some ds)
  (kk : f ⟨nt, (d, .lsl c sz 0 r.length) :: sl, (c, .row e sz (r.map enc)) :: h, c + 1⟩) : BE P A AD ⟨nt, sl, h, c⟩ (some d) (.call ⟨.value fo, args, ts⟩) ⟨f, hf⟩ := by
 rw [BH (h := h) (c := c)] at hfn
 show ON _ _
 rw [hfn]
 show Jy P A h c k (args.toList.map _ ++ caps) _
 rw [Io hl]
 refine Cy.ownF hds hF (fun x hx d hd => ?_) ?_
 .obtain ⟨a, _, rfl⟩ := List.mem_map.1 hx
  exact List.all_eq_true.1 (hfl a) d hd
 rw [List.length_map]
 exact kk
end
theorem ZQ {A : BD} {nt : Nat} {sl : List (Nat × LV)} {h : AP} {c : Nat} (t : Nat) {k : Nat} {ds : List DV} (ht : BZ sl t = .p (.fn k ds)) : A9 A ⟨nt, sl, h, c⟩ ⟨nt, (t, .fn k (ds.map .p)) :: sl, h, c⟩ := fun a w ⟨⟨μ, hh, hr⟩, hnt, hdef⟩ => by
 refine ⟨⟨μ, hh, fun u hu => ?_⟩, hnt, hdef⟩
 show Aa _ _ _ _ (match AJ u ((t, LV.fn k (ds.map .p)) :: sl) with | some v => v | none => .any)
 simp only [AJ]
 by_cases hut : u = t
 .subst hut
  rw [if_pos rfl]
  have := hr u hu
  simp only at this
  rw [ht] at this
  have hp := this.p_inv
  generalize a.tmps.getD u undef = v at hp
  cases hp with
  | fn _ caps _ hsz q =>
   refine .fn k caps _ (by simpa using hsz) fun i v l hv hl => ?_
   simp only [List.getElem?_map, Option.map_eq_some_iff] at hl
   obtain ⟨d, hd, rfl⟩ := hl
   exact .p _ _ (q i v d hv hd)
 rw [if_neg hut]
 exact hr u hu
end Go.E
/- Drawn regions of which the orders do not all come to one by waiting: a tree of orders. No condition. -/
namespace Go.E
open Go Go.RowKit
inductive JZ where
 | done
 | nil
 | picks (l : List Nat) (t : JZ)
 | alt (i : Nat) (l : List Nat) (t r : JZ)
def Lz (listed : Array Bool) : List Nat -> Array Bool
 | [] => listed
 | i :: l => Lz (listed.setIfInBounds i true) l
def Ix (q w : Bool) (md : Region.Mode) (ops : Array Oper) : List Nat -> Array Bool -> Bool
 | [], _ => true
 | i :: rest, listed => (match ops[i]? with
  | none => false
  | some oi => (Region.ready md ops listed == [i]) || ((Region.ready md ops listed).contains i && Pn q w md ops listed i oi (Nf md ops listed i))) &&
  Ix q w md ops rest (listed.setIfInBounds i true)
def JZ.heads : JZ -> List Nat
 | .alt i _ _ r => i :: r.heads
 | _ => []
def L0 (q w : Bool) (md : Region.Mode) (ops : Array Oper) : JZ -> Bool -> Array Bool -> Nat -> Bool
 | .done, b, listed, n => !b && (Region.ready md ops listed).isEmpty && n == 0
 | .nil, b, _, _ => b
 | .picks l t, b, listed, n => !b && Ix q w md ops l listed && decide (l.length <= n) && L0 q w md ops t false (Lz listed l) (n - l.length)
 | .alt i l t r, b, listed, n => (b || decide (0 < n) && !(Region.ready md ops listed).isEmpty && (Region.ready md ops listed).all fun j => (i :: r.heads).contains j) &&
   (decide (i < ops.size) && Ix q w md ops l (listed.setIfInBounds i true) && decide (l.length <= (bif b then n else n - 1)) &&
    L0 q w md ops t false (Lz (listed.setIfInBounds i true) l) ((bif b then n else n - 1) - l.length) && L0 q w md ops r true listed (bif b then n else n - 1))
section
variable (P : Program) (A : BD) (AD : A5) (base n : Nat) (K : St -> Prop) (ops : List Oper)
def Oe : JZ -> St -> Prop
 | .done, st => K st
 | .nil, _ => True
 | .picks l t, st => DI P A AD base n ⟨Oe t, ⟨⟩⟩ (Gp ops l) st
 | .alt i l t r, st => DI P A AD base n ⟨Oe t, ⟨⟩⟩ (Gp ops (i :: l)) st /\ Oe r st
end
section
variable {P : Program} {A : BD} {AD : A5} {md : Region.Mode} {base : Nat} {K : St -> Prop}
theorem ABz {ops : List Oper} {n : Nat} {l : List Nat} {t : JZ} {st : St} (k : DI P A AD base n ⟨Oe P A AD base n K ops t, ⟨⟩⟩ (Gp ops l) st) : Oe P A AD base n K ops (.picks l t) st := k
theorem Zy {ops : List Oper} {n : Nat} {i : Nat} {l : List Nat} {t r : JZ} {st : St} (k : DI P A AD base n ⟨Oe P A AD base n K ops t, ⟨⟩⟩ (Gp ops (i :: l)) st) (k' : Oe P A AD base n K ops r st) : Oe P A AD base n K ops (.alt i l t r) st := ⟨k, k'⟩
theorem Zz {ops : List Oper} {n c c' nt : Nat} {sl : List (Nat × LV)} {h : AP} {S : St} (k : A9 A ⟨nt, sl, h, c + n⟩ S) : Oe P A AD c n (fun st => A9 A { st with ctr := c + n } S) ops .done ⟨nt, sl, h, c'⟩ := k
theorem AB0 {ops : List Oper} {n : Nat} {st : St} : Oe P A AD base n K ops .nil st := trivial
theorem Qy {q w : Bool} {ops : Array Oper} : ∀ {l : List Nat} {listed : Array Bool}, Ix q w md ops l listed = true -> ∀ i ∈ l, i < ops.size
 | [], _, _, i, hi => by simp at hi
 | j :: l, listed, h, i, hi => by
  simp only [Ix, Bool.and_eq_true] at h
  rcases List.mem_cons.1 hi with rfl | hi
  .cases ho : ops[i]? with
   | none => rw [ho] at h; simp at h
   | some o => exact (Array.getElem?_eq_some_iff.1 ho).1
  exact Qy h.2 i hi
theorem OL (q : Bool) (hq : q = true -> ∃ b, AD.calm = some b) {ops : Array Oper} {T Q : St -> Prop} (fuel : Nat) : ∀ (l : List Nat) (listed : Array Bool) (st : St), Ix q AD.own md ops l listed = true -> (∀ k, listed.getD k true = false -> AJ (base + k) st.heap = none) ->
  (∀ st', (∀ k, (Lz listed l).getD k true = false -> AJ (base + k) st'.heap = none) -> T st' -> Ih P AD md ops base Q fuel (Lz listed l) st') ->
  Gn P AD ops base T l st -> Ih P AD md ops base Q (l.length + fuel) listed st
 | [], listed, st, _, hfresh, hT, h => by
  rw [List.length_nil, Nat.zero_add]
  exact hT st hfresh h
 | i :: rest, listed, st, hok, hfresh, hT, h => by
  obtain ⟨o, l, e, ho, hd, hrest⟩ := Ng h
  simp only [Ix, ho, Bool.and_eq_true, Bool.or_eq_true] at hok
  have hrec : Ih P AD md ops base Q (rest.length + fuel) (listed.setIfInBounds i true) (apS st (base + i) o l e) := by
   refine OL q hq fuel rest _ _ hok.2 (fun k hk => ?_) hT hrest
   have hik : i ≠ k := by
    rintro rfl
    rcases Nat.lt_or_ge i listed.size with h' | h'
    .simp [h'] at hk
    simp [Array.getElem?_eq_none h'] at hk
   rw [Bc]
   exact L4 hd (by simp only [St.at]; omega) (hfresh k (by rw [getD_set_ne true hik] at hk; exact hk))
  rw [show (i :: rest).length + fuel = rest.length + fuel + 1 by simp; omega]
  rcases hok.1 with h1 | h1
  .have hr : Region.ready md ops listed = [i] := by simpa using h1
   refine ⟨fun h0 => (by rw [hr] at h0; cases h0), fun j hj => ?_⟩
   rw [hr] at hj
   simp at hj
   subst hj
   exact ⟨o, l, e, ho, hd, hrec⟩
  obtain ⟨h1, h2⟩ := h1
  simp only [Pn, Bool.and_eq_true, List.all_eq_true, List.mem_range] at h2
  obtain ⟨h2, h3⟩ := h2
  generalize hBe : Nf md ops listed i = B at h2 h3
  refine RA q hq ho (fun j => B.contains j) (fun j hj => ?_) (rest.length + fuel) listed st (fun j hj => ?_) (fun j oj hoj hji hun hBj => ?_) hfresh (by simpa using h1) hd hrec
  .have := h2 j (by simpa using hj)
   obtain ⟨⟨a1, a2⟩, a3⟩ := this
   refine ⟨by simpa using a1, fun oj hoj => ?_⟩
   rw [hoj] at a3
   obtain ⟨x, hx, hx2⟩ := Array.any_eq_true'.1 a3
   simp only [Bool.and_eq_true, Bool.or_eq_true, beq_iff_eq] at hx2
   exact ⟨x, hx, hx2.1, hx2.2⟩
  .have := (h2 j (by simpa using hj)).1.2
   simpa using this
  have := h3 j (Array.getElem?_eq_some_iff.1 hoj).1
  simp only [Bool.or_eq_true, beq_iff_eq, hji, false_or, hun, Bool.false_eq_true] at this
  rw [hBj] at this
  simp only [Bool.false_eq_true, false_or, hoj, Bool.and_eq_true] at this
  refine ⟨this.1, this.2.1, fun ho => ?_⟩
  have := this.2.2
  rw [ho] at this; simpa using this
theorem MT (q : Bool) (hq : q = true -> ∃ b, AD.calm = some b) {ops : List Oper} : ∀ (T : JZ) (listed : Array Bool) (st : St) (n : Nat), (∀ k, listed.getD k true = false -> AJ (base + k) st.heap = none) -> Oe P A AD base ops.length K ops T st ->
  (L0 q AD.own md ops.toArray T false listed n = true -> Ih P AD md ops.toArray base K n listed st) /\
  (L0 q AD.own md ops.toArray T true listed n = true -> ∀ i ∈ T.heads, ∃ o l e, ops.toArray[i]? = some o /\ Cm P AD ops.toArray (st.at (base + i)) o l e /\ Ih P AD md ops.toArray base K n (listed.setIfInBounds i true) (apS st (base + i) o l e))
 | .done, listed, st, n, hfresh, h => by
  refine ⟨fun hok => ?_, fun hok => by simp [L0] at hok⟩
  simp only [L0, Bool.not_false, Bool.true_and, Bool.and_eq_true, beq_iff_eq, List.isEmpty_iff] at hok
  obtain ⟨h1, rfl⟩ := hok
  exact ⟨h1, st, GA.refl st, h⟩
 | .nil, listed, st, n, hfresh, h => ⟨fun hok => by simp [L0] at hok, fun _ i hi => by simp [JZ.heads] at hi⟩
 | .picks l t, listed, st, n, hfresh, h => by
  refine ⟨fun hok => ?_, fun hok => by simp [L0] at hok⟩
  simp only [L0, Bool.not_false, Bool.true_and, Bool.and_eq_true, decide_eq_true_eq] at hok
  obtain ⟨⟨h1, h2⟩, h3⟩ := hok
  have hb : (l.all fun i => decide (i < ops.length)) = true := List.all_eq_true.2 fun i hi => by simpa using Qy h1 i hi
  have := OL q hq (md := md) (Q := K) (n - l.length) l listed st h1 hfresh (fun st' hf' hT => ?_) (KP l st hb h)
  .rwa [show l.length + (n - l.length) = n by omega] at this
  refine Nd _ _ { st' with ctr := base + ops.length } _ ⟨rfl, fun _ => rfl, fun _ => rfl⟩ ?_
  exact (MT q hq t (Lz listed l) { st' with ctr := base + ops.length } (n - l.length) hf' hT).1 h3
 | .alt i l t r, listed, st, n, hfresh, ⟨h, h'⟩ => by
  have key : ∀ m, (decide (i < ops.toArray.size) && Ix q AD.own md ops.toArray l (listed.setIfInBounds i true) && decide (l.length <= m) && L0 q AD.own md ops.toArray t false (Lz (listed.setIfInBounds i true) l) (m - l.length) && L0 q AD.own md ops.toArray r true listed m) = true ->
    ∀ j ∈ i :: r.heads, ∃ o l e, ops.toArray[j]? = some o /\ Cm P AD ops.toArray (st.at (base + j)) o l e /\ Ih P AD md ops.toArray base K m (listed.setIfInBounds j true) (apS st (base + j) o l e) := by
   intro m hok j hj
   simp only [Bool.and_eq_true, decide_eq_true_eq] at hok
   obtain ⟨⟨⟨⟨h0, h1⟩, h2⟩, h3⟩, h4⟩ := hok
   rcases List.mem_cons.1 hj with rfl | hj
   .have hb : ((j :: l).all fun i => decide (i < ops.length)) = true := List.all_eq_true.2 fun i hi => by
     rcases List.mem_cons.1 hi with rfl | hi
     .simpa using h0
     simpa using Qy h1 i hi
    obtain ⟨o, lv, e, ho, hd, hrest⟩ := Ng (KP (j :: l) st hb h)
    refine ⟨o, lv, e, ho, hd, ?_⟩
    have := OL q hq (md := md) (Q := K) (m - l.length) l (listed.setIfInBounds j true) (apS st (base + j) o lv e) h1 (fun k hk => ?_) (fun st' hf' hT => ?_) hrest
    .rwa [show l.length + (m - l.length) = m by omega] at this
    .have hik : j ≠ k := by
      rintro rfl
      rcases Nat.lt_or_ge j listed.size with h' | h'
      .simp [h'] at hk
      simp [Array.getElem?_eq_none h'] at hk
     rw [Bc]
     exact L4 hd (by simp only [St.at]; omega) (hfresh k (by rw [getD_set_ne true hik] at hk; exact hk))
    refine Nd _ _ { st' with ctr := base + ops.length } _ ⟨rfl, fun _ => rfl, fun _ => rfl⟩ ?_
    exact (MT q hq t _ { st' with ctr := base + ops.length } (m - l.length) hf' hT).1 h3
   exact (MT q hq r listed st m hfresh h').2 h4 j hj
  refine ⟨fun hok => ?_, fun hok => ?_⟩
  .rw [L0, Bool.false_or] at hok
   obtain ⟨h1, h2⟩ := Bool.and_eq_true_iff.1 hok
   simp only [Bool.and_eq_true, decide_eq_true_eq, Bool.not_eq_true', List.all_eq_true] at h1
   obtain ⟨⟨h3, h4⟩, h5⟩ := h1
   obtain ⟨m, rfl⟩ : ∃ m, n = m + 1 := ⟨n - 1, by omega⟩
   refine ⟨fun h0 => by rw [h0] at h4; simp at h4, fun j hj => ?_⟩
   exact key m (by simpa using h2) j (by simpa using h5 j hj)
  simp only [L0, Bool.true_or, Bool.true_and, cond_true] at hok
  exact key n hok
theorem ACW (hE : BC P AD) (hm : P.follows .mixedOrders = true) {id : Nat} {ops : List Oper} {Q : Exit -> St -> Prop} {nt : Nat} {sl : List (Nat × LV)} {h : AP} {c : Nat} (T : JZ) (n : Nat) (S : St)
  (hok : L0 false AD.own .any ops.toArray T false (Array.replicate ops.length false) ops.length = true) (hn : Nat.beq ops.length n = true)
  (k : Oe P A AD c n (fun st => A9 A { st with ctr := c + n } S) ops T ⟨nt, sl, h, c⟩) (kk : Q .normal S) : B2 P A (.region id ops.toArray true) Q ⟨nt, sl, h, c⟩ := fun a w hR => by
 have hn' := Nat.eq_of_beq_eq_true hn
 subst hn'
 refine wp_region_any hm ?_
 have hR' := (hR.drawn (w.drawn + 1)).toRF
 have hfr : ∀ k, AJ (c + k) h = none := by
  intro k
  cases hx : AJ (c + k) h with
  | none => rfl
  | some o =>
   obtain ⟨⟨μ, hh, _⟩, _, _⟩ := hR
   obtain ⟨loc, h1, _⟩ := hh.obj _ _ hx
   rw [hh.fresh _ (by simp [Fr])] at h1; cases h1
 have hD := (MT false (fun h => by cases h) (md := .any) T (Array.replicate ops.length false) ⟨nt, sl, h, c⟩ ops.length (fun k _ => hfr k) k).1 hok
 rw [show ops.toArray.size = ops.length by simp]
 refine Kl (A := A) (n := ops.length) hE (by simp) (fun st' a' w' listed hk hR'' => ?_) ops.length _ ⟨nt, sl, h, c⟩ a _ (by simp) hD ?_
 .refine ⟨S, ?_, kk⟩
  obtain ⟨⟨μ, x1, x2⟩, x3, x4⟩ := hR''
  exact hk a' w' ⟨⟨μ, x1.less fun id hid => .inl hid, x2⟩, x3, x4⟩
 obtain ⟨⟨μ, x1, x2⟩, x3, x4⟩ := hR'
 refine ⟨⟨μ, x1.less fun id hid => ?_, x2⟩, x3, x4⟩
 rcases hid with hid | ⟨k, _, _, rfl⟩
 .simp only [Fr]; omega
 simp [Fr]
end
end Go.E
/- Af objects handed to a function that turns them: its contract (Cy of the objects alone), and its use among other objects (WU, WS). No condition. -/
namespace Go.E
open Go Go.RowKit
def QO (ρ : Nat -> Nat) : LV -> LV
 | .lsl id sz off len => .lsl (ρ id) sz off len
 | .lpb id off => .lpb (ρ id) off
 | .lpe id i off => .lpe (ρ id) i off
 | .lmap id => .lmap (ρ id)
 | x => x
def miV : LV -> Option Nat
 | .lsl id _ _ _ => some id
 | .lpb id _ => some id
 | .lpe id _ _ => some id
 | .lmap id => some id
 | _ => none
def mfV : LV -> Bool
 | .p _ => true
 | .lsl _ _ _ _ => true
 | .lpb _ _ => true
 | .lpe _ _ _ => true
 | .lmap _ => true
 | .und => true
 | .any => true
 | _ => false
def PR (ρ : Nat -> Nat) : BB -> BB
 | .box cs => .box (cs.map (QO ρ))
 | o => o
def Oa (gl : List (Nat × Nat)) (m : Nat) (l : LV) : Bool := mfV l && (match miV l with
 | none => true
 | some i => Nat.ble m i || (AJ i gl).isSome)
def Ul (gl : List (Nat × Nat)) (m : Nat) : BB -> Bool
 | .box cs => cs.all (Oa gl m)
 | _ => true
def mrA (ρ : Nat -> Nat) : LV -> LV
 | .agg l => .agg (l.map (QO ρ))
 | l => QO ρ l
def moA (gl : List (Nat × Nat)) (m : Nat) : LV -> Bool
 | .agg l => l.all (Oa gl m)
 | l => Oa gl m l
def Z0 (ρ : Nat -> Nat) : LV -> LV
 | .tup l => .tup (l.map (mrA ρ))
 | l => mrA ρ l
def Z1 (gl : List (Nat × Nat)) (m : Nat) : LV -> Bool
 | .tup l => l.all (moA gl m)
 | l => moA gl m l
def HT (ρ : Nat -> Nat) : AP -> AP
 | [] => []
 | (i, o) :: h => (ρ i, PR ρ o) :: HT ρ h
def Cg (gl : List (Nat × Nat)) (nw : Nat -> Nat) (i : Nat) : Nat := match AJ i gl with
 | some j => j
 | none => nw i
def MG (gl : List (Nat × Nat)) (m c i : Nat) : Nat := Cg gl (fun i => c + (i - m)) i
def NJ (ρ : Nat -> Nat) (h : AP) : AP -> Prop
 | [] => True
 | (i, o) :: r => AJ (ρ i) h = some (PR ρ o) /\ NJ ρ h r
def Um (gl : List (Nat × Nat)) (m m1 : Nat) (H H1 : AP) : Bool :=
 Nat.ble m m1 && H.all (fun p => Nat.ble (p.1 + 1) m && (AJ p.1 gl).isSome && Ul gl m p.2) && gl.all (fun p => (AJ p.1 H).isSome && gl.all fun q => p.1 == q.1 || p.2 != q.2) && H1.all (fun p => (Nat.ble m p.1 || (AJ p.1 gl).isSome) && Ul gl m p.2)
theorem HU {α : Type} {i : Nat} {o : α} : ∀ {l : List (Nat × α)}, AJ i l = some o -> (i, o) ∈ l
 | [], h => by simp [AJ] at h
 | (k, v) :: l, h => by
  unfold AJ at h
  split at h
  .rename_i e; cases h; subst e; simp
  exact List.mem_cons_of_mem _ (HU h)
theorem QP {ρ : Nat -> Nat} {h : AP} {i : Nat} {o : BB} : ∀ {H : AP}, NJ ρ h H -> AJ i H = some o -> AJ (ρ i) h = some (PR ρ o)
 | [], _, hl => by simp [AJ] at hl
 | (k, v) :: H, hk, hl => by
  unfold AJ at hl
  split at hl
  .rename_i e; cases hl; subst e; exact hk.1
  exact QP hk.2 hl
theorem Un {ρ : Nat -> Nat} {id : Nat} {o : BB} : ∀ {H : AP}, AJ id (HT ρ H) = some o -> ∃ i o1, AJ i H = some o1 /\ ρ i = id /\ o = PR ρ o1
 | [], h => by simp [HT, AJ] at h
 | (k, v) :: H, h => by
  unfold HT AJ at h
  split at h
  .rename_i e; cases h; exact ⟨k, v, by simp [AJ], e.symm, rfl⟩
  rename_i e
  obtain ⟨i, o1, h1, h2, h3⟩ := Un h
  refine ⟨i, o1, ?_, h2, h3⟩
  unfold AJ
  rw [if_neg (fun e2 => e (by rw [<- h2, e2]))]
  exact h1
theorem Uo {α : Type} {id : Nat} {o : α} : ∀ {a b : List (Nat × α)}, AJ id (a ++ b) = some o -> AJ id a = some o \/ AJ id b = some o
 | [], b, h => .inr h
 | (k, v) :: a, b, h => by
  rw [List.cons_append] at h
  have e1 : ∀ l : List (Nat × α), AJ id ((k, v) :: l) = if id = k then some v else AJ id l := fun _ => rfl
  rw [e1] at h
  by_cases e : id = k
  .rw [if_pos e] at h; rw [e1, if_pos e]; exact .inl h
  rw [if_neg e] at h; rw [e1, if_neg e]; exact Uo h
section
variable {O : Nat -> Prop} {μ μ' : Nat -> Option BQ} {w : World} {ρ : Nat -> Nat}
theorem WV {v : Value} {l : LV} (hf : mfV l = true) (hμ : ∀ i loc, miV l = some i -> μ (ρ i) = some loc -> μ' i = some loc) (h : Aa O μ w v (QO ρ l)) : Aa O μ' w v l := by
 cases l with
 | p d => cases h with | p _ _ h => exact .p _ _ h
 | lsl id sz off len =>
  cases h with
  | lsln _ loc hm hn => exact .lsln id loc (hμ _ _ rfl hm) hn
  | lsl _ _ _ cap a loc hm hn hcap hl ha hb hs => exact .lsl id off len cap a loc (hμ _ _ rfl hm) hn hcap hl ha hb hs
 | lpb id off => cases h with | lpb _ _ loc hm hn => exact .lpb id off loc (hμ _ _ rfl hm) hn
 | lpe id i off => cases h with | lpe _ _ _ loc hm hn => exact .lpe id i off loc (hμ _ _ rfl hm) hn
 | lmap id => cases h with | lmap _ loc hm hn => exact .lmap id loc (hμ _ _ rfl hm) hn
 | und => cases h; exact .und
 | any => exact .any v
 | agg l => cases hf
 | tup l => cases hf
 | fn f l => cases hf
theorem Uq {v : Value} {l : LV} (hf : mfV l = true) (hμ : ∀ i loc, miV l = some i -> μ' i = some loc -> μ (ρ i) = some loc) (h : Aa O μ' w v l) : Aa O μ w v (QO ρ l) := by
 cases l with
 | p d => cases h with | p _ _ h => exact .p _ _ h
 | lsl id sz off len =>
  cases h with
  | lsln _ loc hm hn => exact .lsln _ loc (hμ _ _ rfl hm) hn
  | lsl _ _ _ cap a loc hm hn hcap hl ha hb hs => exact .lsl _ off len cap a loc (hμ _ _ rfl hm) hn hcap hl ha hb hs
 | lpb id off => cases h with | lpb _ _ loc hm hn => exact .lpb _ off loc (hμ _ _ rfl hm) hn
 | lpe id i off => cases h with | lpe _ _ _ loc hm hn => exact .lpe _ i off loc (hμ _ _ rfl hm) hn
 | lmap id => cases h with | lmap _ loc hm hn => exact .lmap _ loc (hμ _ _ rfl hm) hn
 | und => cases h; exact .und
 | any => exact .any v
 | agg l => cases hf
 | tup l => cases hf
 | fn f l => cases hf
theorem AAU {gl : List (Nat × Nat)} {m : Nat} {loc : BQ} {o : BB} (hf : Ul gl m o = true) (hμ : ∀ i lc, (m <= i \/ ∃ j, AJ i gl = some j) -> μ (ρ i) = some lc -> μ' i = some lc) (h : Cv O μ w loc (PR ρ o)) : Cv O μ' w loc o := by
 cases o with
 | row e sz el => exact h
 | map mp => exact h
 | mapd mp => exact h
 | iter cur left => exact h
 | box cs =>
  obtain ⟨hn, c, t, h1, h2, h3⟩ := h
  refine ⟨hn, c, t, h1, by simpa using h2, fun i v l hv hl => ?_⟩
  have hok := List.all_eq_true.1 hf l (List.mem_of_getElem? hl)
  simp only [Oa, Bool.and_eq_true] at hok
  refine WV hok.1 (fun j lc hj hm => hμ j lc ?_ hm) (h3 i v _ hv (by rw [List.getElem?_map, hl]; rfl))
  have h4 := hok.2
  rw [hj] at h4
  simp only [Bool.or_eq_true, Nat.ble_eq] at h4
  exact h4.imp (fun x => x) fun h5 => Option.isSome_iff_exists.1 h5
theorem ZT {gl : List (Nat × Nat)} {m : Nat} {loc : BQ} {o : BB} (hf : Ul gl m o = true) (hμ : ∀ i lc, (m <= i \/ ∃ j, AJ i gl = some j) -> μ' i = some lc -> μ (ρ i) = some lc) (h : Cv O μ' w loc o) : Cv O μ w loc (PR ρ o) := by
 cases o with
 | row e sz el => exact h
 | map mp => exact h
 | mapd mp => exact h
 | iter cur left => exact h
 | box cs =>
  obtain ⟨hn, c, t, h1, h2, h3⟩ := h
  refine ⟨hn, c, t, h1, by simpa using h2, fun i v l hv hl => ?_⟩
  rw [List.getElem?_map] at hl
  cases hc : cs[i]? with
  | none => rw [hc] at hl; cases hl
  | some x =>
   rw [hc] at hl
   cases hl
   have hok := List.all_eq_true.1 hf x (List.mem_of_getElem? hc)
   simp only [Oa, Bool.and_eq_true] at hok
   refine Uq hok.1 (fun j lc hj hm => hμ j lc ?_ hm) (h3 i v x hv hc)
   have h4 := hok.2
   rw [hj] at h4
   simp only [Bool.or_eq_true, Nat.ble_eq] at h4
   exact h4.imp (fun x => x) fun h5 => Option.isSome_iff_exists.1 h5
end
section
variable {P : Program}
theorem AAV {k : Nat} {H H1 : AP} {m m1 : Nat} {ls : List LV} {L : LV} (hM : ∀ A : BD, (∀ id, A.μ0 id ≠ none -> id < m) -> Cy P A H m k ls (fun l h c => l = L /\ h = H1 /\ c = m1))
  (gl : List (Nat × Nat)) (nw : Nat -> Nat) {A : BD} {h : AP} {F : Nat -> Prop} (hF : ∀ i, m <= i -> F (nw i)) (hinj : ∀ i i', m <= i -> m <= i' -> nw i = nw i' -> i = i') (hB : Um gl m m1 H H1 = true) (hobj : NJ (Cg gl nw) h H) (hls : ls.all (Oa gl m) = true) (hL : Z1 gl m L = true)
  {μ : Nat -> Option BQ} {w : World} {vs : Array Value} (hh : HRel A μ h F w) (hsz : vs.size = ls.length) (hr : ∀ (i : Nat) (v : Value) (x : LV), vs[i]? = some v -> (ls.map (QO (Cg gl nw)))[i]? = some x -> Aa (Af A μ h) μ w v x) :
  Calls P k vs w fun en w' => ∃ u μ', en = .returned u /\ HRel A μ' (HT (Cg gl nw) H1 ++ B6 (gl.map (·.2)) h) (fun q => F q /\ ∀ i, m <= i -> i < m1 -> q ≠ nw i) w' /\ Aa (Af A μ' (HT (Cg gl nw) H1 ++ B6 (gl.map (·.2)) h)) μ' w' u (Z0 (Cg gl nw) L) /\ ∀ v x, Aa (Af A μ h) μ w v x -> Aa (Af A μ' (HT (Cg gl nw) H1 ++ B6 (gl.map (·.2)) h)) μ' w' v x := by
 simp only [Um, Bool.and_eq_true, List.all_eq_true, Nat.ble_eq, Bool.or_eq_true, beq_iff_eq, bne_iff_ne] at hB
 obtain ⟨⟨⟨hm, hH⟩, hgl⟩, hH1⟩ := hB
 have key : ∀ i o, AJ i H = some o -> i < m /\ (∃ j, AJ i gl = some j) /\ Ul gl m o = true := fun i o hl => by
  obtain ⟨⟨h1, h2⟩, h3⟩ := hH _ (HU hl)
  exact ⟨h1, Option.isSome_iff_exists.1 h2, h3⟩
 have gkey : ∀ i j, AJ i gl = some j -> ∃ o, AJ i H = some o := fun i j hl => Option.isSome_iff_exists.1 (hgl _ (HU hl)).1
 have ginj : ∀ i i' j, AJ i gl = some j -> AJ i' gl = some j -> i = i' := fun i i' j h1 h2 => by
  have := (hgl _ (HU h1)).2 _ (HU h2)
  rcases this with h | h
  .exact h
  exact absurd rfl h
 have rg : ∀ i j, AJ i gl = some j -> Cg gl nw i = j := fun i j hl => by unfold Cg; rw [hl]
 have rn : ∀ i, m <= i -> Cg gl nw i = nw i := fun i hi => by
  unfold Cg
  cases hl : AJ i gl with
  | none => rfl
  | some j =>
   obtain ⟨o, ho⟩ := gkey i j hl
   have := (key i o ho).1
   omega
 have hno : ∀ i, m <= i -> μ (nw i) = none := fun i hi => hh.fresh _ (hF i hi)
 let μ' : Nat -> Option BQ := fun i => match AJ i gl with | some j => μ j | none => none
 have μg : ∀ i j, AJ i gl = some j -> μ' i = μ j := fun i j hl => by simp only [μ', hl]
 have μlt : ∀ i loc, μ' i = some loc -> ∃ j, AJ i gl = some j /\ μ j = some loc := by
  intro i loc hi
  cases hl : AJ i gl with
  | none => simp only [μ', hl] at hi; cases hi
  | some j => exact ⟨j, rfl, by rw [<- μg i j hl]; exact hi⟩
 have hobj' : ∀ i o, AJ i H = some o -> ∃ j, AJ i gl = some j /\ AJ j h = some (PR (Cg gl nw) o) := fun i o hl => by
  obtain ⟨_, ⟨j, hj⟩, _⟩ := key i o hl
  have := QP hobj hl
  rw [rg i j hj] at this
  exact ⟨j, hj, this⟩
 have mine : ∀ b, Bm μ' H b -> Bm μ h b /\ ∃ i j o loc, AJ i H = some o /\ AJ i gl = some j /\ AJ j h = some (PR (Cg gl nw) o) /\ μ j = some loc /\ loc.nil = false /\ loc.b = b := by
  rintro b ⟨i, o, loc, h1, h2, h3, h4⟩
  obtain ⟨j, hj, hj2⟩ := hobj' i o h1
  rw [μg i j hj] at h2
  exact ⟨⟨j, _, loc, hj2, h2, h3, h4⟩, i, j, o, loc, h1, hj, hj2, h2, h3, h4⟩
 have ownlt : ∀ b, Af A μ h b -> b < w.heap.size := by
  rintro b (hb | ⟨id, o, loc, h1, h2, h3, rfl⟩)
  .exact Nat.lt_of_lt_of_le (A.hO b hb).1 hh.size
  exact (hh.base id o loc h1 h2 h3).1
 let A' : BD := ⟨w, fun b => Af A μ h b /\ ¬ Bm μ' H b, Bm μ' H, μ', fun b hb => ⟨ownlt b hb.1, hb.2⟩⟩
 have own1 : ∀ b, Af A' μ' H b -> Af A μ h b := by
  rintro b (hb | hb)
  .exact hb.1
  exact .inr (mine b hb).1
 have own2 : ∀ b, Af A μ h b -> Af A' μ' H b := fun b hb => by
  by_cases hc : Bm μ' H b
  .exact .inr hc
  exact .inl ⟨hb, hc⟩
 have hh' : HRel A' μ' H (Fr m) w := by
  refine ⟨?_, ?_, ?_, ?_, Nat.le_refl _, fun _ _ _ => rfl, rfl, rfl, rfl, fun _ _ hm' => hm'⟩
  .intro i o hl
   obtain ⟨j, hj, hj2⟩ := hobj' i o hl
   obtain ⟨loc, h1, h2⟩ := hh.obj j _ hj2
   refine ⟨loc, by rw [μg i j hj]; exact h1, ?_⟩
   have h3 : Cv (Af A' μ' H) μ w loc (PR (Cg gl nw) o) := h2.mono (BJ.refl _ _) (fun b _ hb => own1 b hb) (fun _ _ h => h) (fun _ => rfl)
   refine AAU (key i o hl).2.2 (fun i' lc hi' hm' => ?_) h3
   rcases hi' with hi' | ⟨j', hj'⟩
   .rw [rn i' hi', hno i' hi'] at hm'; cases hm'
   rw [rg i' j' hj'] at hm'
   rw [μg i' j' hj']; exact hm'
  .intro i i' o o' loc loc' h1 h2 m1' m2' n1 n2 he
   obtain ⟨j, hj, hj2⟩ := hobj' i o h1
   obtain ⟨j', hj', hj2'⟩ := hobj' i' o' h2
   rw [μg i j hj] at m1'
   rw [μg i' j' hj'] at m2'
   have := hh.inj _ _ _ _ _ _ hj2 hj2' m1' m2' n1 n2 he
   subst this
   exact ginj _ _ _ hj hj'
  .intro i hi
   cases hm' : μ' i with
   | none => rfl
   | some loc =>
    obtain ⟨j, hj, _⟩ := μlt i loc hm'
    obtain ⟨o, ho⟩ := gkey i j hj
    have := (key i o ho).1
    simp only [Fr] at hi; omega
  intro i o loc h1 h2 h3
  have hmine : Bm μ' H loc.b := ⟨i, o, loc, h1, h2, h3, rfl⟩
  exact ⟨ownlt _ (.inr (mine _ hmine).1), fun hb => hb.2 hmine, .inr hmine⟩
 have hargs : ∀ (i : Nat) (v : Value) (l : LV), vs[i]? = some v -> ls[i]? = some l -> Aa (Af A' μ' H) μ' w v l := by
  intro i v l hv hl
  have hok := List.all_eq_true.1 hls l (List.mem_of_getElem? hl)
  simp only [Oa, Bool.and_eq_true] at hok
  have h1 := (hr i v _ hv (by rw [List.getElem?_map, hl]; rfl)).mono (O' := Af A' μ' H) (BJ.refl _ _) (fun b _ hb => own1 b hb) (fun _ _ h => h)
  refine WV hok.1 (fun i' lc hi' hm' => ?_) h1
  have h4 := hok.2
  rw [hi'] at h4
  simp only [Bool.or_eq_true, Nat.ble_eq] at h4
  rcases h4 with h4 | h4
  .rw [rn i' h4, hno i' h4] at hm'; cases hm'
  obtain ⟨j', hj'⟩ := Option.isSome_iff_exists.1 h4
  rw [rg i' j' hj'] at hm'
  rw [μg i' j' hj']; exact hm'
 have hμ0 : ∀ id, A'.μ0 id ≠ none -> id < m := by
  intro id hid
  cases hm' : μ' id with
  | none => exact absurd hm' hid
  | some loc =>
   obtain ⟨j, hj, _⟩ := μlt id loc hm'
   obtain ⟨o, ho⟩ := gkey id j hj
   exact (key id o ho).1
 refine ((hM A' hμ0).2 μ' w vs hh' hsz hargs).mono ?_
 rintro e w' ⟨u, l, h1, c1, μ'', he, ⟨rfl, rfl, rfl⟩, hh2, hu, -⟩
 let μ3 : Nat -> Option BQ := fun id => open Classical in if hx : ∃ i, m <= i /\ nw i = id then μ'' (Classical.choose hx) else μ id
 have μ3n : ∀ i, m <= i -> μ3 (nw i) = μ'' i := fun i hi => by
  have hx : ∃ i', m <= i' /\ nw i' = nw i := ⟨i, hi, rfl⟩
  simp only [μ3, dif_pos hx]
  have hc := Classical.choose_spec hx
  rw [hinj _ _ hc.1 hi hc.2]
 have ext : ∀ i loc, μ' i = some loc -> μ'' i = some loc := fun i loc hi => hh2.ext i loc hi
 have μ3o : ∀ id loc, μ id = some loc -> μ3 id = some loc := fun id loc hm' => by
  have hx : ¬ ∃ i, m <= i /\ nw i = id := fun ⟨i, h1, h2⟩ => by rw [<- h2, hno i h1] at hm'; cases hm'
  simp only [μ3, dif_neg hx, hm']
 have name : ∀ i lc, (m <= i \/ ∃ j, AJ i gl = some j) -> μ'' i = some lc -> μ3 (Cg gl nw i) = some lc := by
  intro i lc hi hm'
  rcases hi with hi | ⟨j, hj⟩
  .rw [rn i hi, μ3n i hi]
   exact hm'
  obtain ⟨o, ho⟩ := gkey i j hj
  obtain ⟨j', hj', hj2⟩ := hobj' i o ho
  rw [hj] at hj'
  cases hj'
  obtain ⟨loc, g1, _⟩ := hh.obj j _ hj2
  have := ext i loc (by rw [μg i j hj]; exact g1)
  rw [hm'] at this
  cases this
  rw [rg i j hj]
  exact μ3o j _ g1
 have new : ∀ id o, AJ id (HT (Cg gl nw) h1) = some o -> ∃ i o1, AJ i h1 = some o1 /\ Cg gl nw i = id /\ o = PR (Cg gl nw) o1 /\ (m <= i \/ ∃ j, AJ i gl = some j) /\ Ul gl m o1 = true := by
  intro id o hl
  obtain ⟨i, o1, g1, g2, g3⟩ := Un hl
  obtain ⟨g4, g5⟩ := hH1 _ (HU g1)
  exact ⟨i, o1, g1, g2, g3, g4.imp (fun x => x) fun h5 => Option.isSome_iff_exists.1 h5, g5⟩
 have cases' : ∀ id o, AJ id (HT (Cg gl nw) h1 ++ B6 (gl.map (·.2)) h) = some o -> (∃ i o1, AJ i h1 = some o1 /\ Cg gl nw i = id /\ o = PR (Cg gl nw) o1 /\ (m <= i \/ ∃ j, AJ i gl = some j) /\ Ul gl m o1 = true) \/ (id ∉ gl.map (·.2) /\ AJ id h = some o) := by
  intro id o hl
  rcases Uo hl with hl | hl
  .exact .inl (new id o hl)
  exact .inr (G1 hl)
 have other : ∀ id o loc, id ∉ gl.map (·.2) -> AJ id h = some o -> μ id = some loc -> loc.nil = false -> ¬ Bm μ' H loc.b := by
  intro id o loc hid hl hm' hn hmine
  obtain ⟨_, i, j, o', loc', g1, g2, g3, g4, g5, g6⟩ := mine _ hmine
  have := hh.inj _ _ _ _ _ _ g3 hl g4 hm' g5 hn g6
  subst this
  exact hid (List.mem_map.2 ⟨(i, j), HU g2, rfl⟩)
 have hkept : BJ (Af A μ h) w w' := ⟨hh2.size, fun b hb hO => hh2.block b hb fun hm' => hO (.inr (mine b hm').1)⟩
 have nmine : ∀ b, Bm μ3 (HT (Cg gl nw) h1 ++ B6 (gl.map (·.2)) h) b -> Bm μ'' h1 b \/ (Af A μ h b /\ ¬ Bm μ' H b) := by
  rintro b ⟨id, o, loc, g1, g2, g3, g4⟩
  rcases cases' id o g1 with ⟨i, o1, k1, k2, k3, k4, k5⟩ | ⟨k1, k2⟩
  .left
   obtain ⟨lc, q1, _⟩ := hh2.obj i o1 k1
   have := name i lc k4 q1
   rw [k2, g2] at this
   cases this
   exact ⟨i, o1, loc, k1, q1, g3, g4⟩
  right
  obtain ⟨lc, q1, _⟩ := hh.obj id o k2
  have := μ3o id lc q1
  rw [g2] at this
  cases this
  rw [<- g4]
  exact ⟨.inr ⟨id, o, loc, k2, q1, g3, rfl⟩, other id o loc k1 k2 q1 g3⟩
 have own3 : ∀ b, Af A μ3 (HT (Cg gl nw) h1 ++ B6 (gl.map (·.2)) h) b -> Af A' μ'' h1 b := by
  rintro b (hb | hb)
  .refine .inl ⟨.inl hb, fun hm' => ?_⟩
   obtain ⟨_, i, j, o', loc', g1, g2, g3, g4, g5, rfl⟩ := mine _ hm'
   exact (hh.base j _ loc' g3 g4 g5).2.1 hb
  rcases nmine b hb with hb | hb
  .exact .inr hb
  exact .inl hb
 have own4 : ∀ b, b < w.heap.size -> Af A μ3 (HT (Cg gl nw) h1 ++ B6 (gl.map (·.2)) h) b -> Af A μ h b := by
  rintro b hlt' (hb | hb)
  .exact .inl hb
  rcases nmine b hb with ⟨i, o1, loc, k1, k2, k3, rfl⟩ | hb
  .rcases (hh2.base i o1 loc k1 k2 k3).2.2 with hx | hx
   .exact absurd hx (by show ¬ w.heap.size <= _; omega)
   exact .inr (mine _ hx).1
  exact hb.1
 have hu2 : Aa (Af A μ3 (HT (Cg gl nw) h1 ++ B6 (gl.map (·.2)) h)) μ'' w' u l := hu.mono (BJ.refl _ _) (fun b _ hb => own3 b hb) (fun _ _ h => h)
 have one : ∀ v x, Oa gl m x = true -> Aa (Af A μ3 (HT (Cg gl nw) h1 ++ B6 (gl.map (·.2)) h)) μ'' w' v x -> Aa (Af A μ3 (HT (Cg gl nw) h1 ++ B6 (gl.map (·.2)) h)) μ3 w' v (QO (Cg gl nw) x) := by
  intro v x hx hv
  simp only [Oa, Bool.and_eq_true] at hx
  refine Uq hx.1 (fun i' lc' hi' hm' => name i' lc' ?_ hm') hv
  have h4 := hx.2
  rw [hi'] at h4
  simp only [Bool.or_eq_true, Nat.ble_eq] at h4
  exact h4.imp (fun x => x) fun h5 => Option.isSome_iff_exists.1 h5
 refine ⟨u, μ3, he, ⟨?_, ?_, ?_, ?_, Nat.le_trans hh.size hh2.size, ?_, hh2.os.trans hh.os, hh2.tape.trans hh.tape, hh2.output.trans hh.output, fun id loc hm' => μ3o id loc (hh.ext id loc hm')⟩, ?_, fun v x hv => hv.mono hkept own4 μ3o⟩
 .intro id o hl
  rcases cases' id o hl with ⟨i, o1, k1, k2, rfl, k4, k5⟩ | ⟨k1, k2⟩
  .obtain ⟨lc, q1, q2⟩ := hh2.obj i o1 k1
   refine ⟨lc, by rw [<- k2]; exact name i lc k4 q1, ?_⟩
   have q3 : Cv (Af A μ3 (HT (Cg gl nw) h1 ++ B6 (gl.map (·.2)) h)) μ'' w' lc o1 := q2.mono (BJ.refl _ _) (fun b _ hb => own3 b hb) (fun _ _ h => h) (fun _ => rfl)
   exact ZT k5 (fun i' lc' hi' hm' => name i' lc' hi' hm') q3
  obtain ⟨lc, q1, q2⟩ := hh.obj id o k2
  refine ⟨lc, μ3o id lc q1, q2.mono hkept own4 μ3o fun hn => ?_⟩
  exact hh2.block _ (hh.base id o lc k2 q1 hn).1 (other id o lc k1 k2 q1 hn)
 .intro id id' o o' loc loc' g1 g2 m1' m2' n1 n2 hb
  rcases cases' id o g1 with ⟨i, o1, k1, k2, k3, k4, k5⟩ | ⟨k1, k2⟩
  .obtain ⟨lc, q1, _⟩ := hh2.obj i o1 k1
   have e1 := name i lc k4 q1
   rw [k2, m1'] at e1
   cases e1
   rcases cases' id' o' g2 with ⟨i', o1', k1', k2', k3', k4', k5'⟩ | ⟨k1', k2'⟩
   .obtain ⟨lc', q1', _⟩ := hh2.obj i' o1' k1'
    have e1' := name i' lc' k4' q1'
    rw [k2', m2'] at e1'
    cases e1'
    have := hh2.inj _ _ _ _ _ _ k1 k1' q1 q1' n1 n2 hb
    rw [<- k2, <- k2', this]
   exfalso
   obtain ⟨lc', q1', _⟩ := hh.obj id' o' k2'
   have e1' := μ3o id' lc' q1'
   rw [m2'] at e1'
   cases e1'
   have hno := other id' o' loc' k1' k2' q1' n2
   have hsz' := (hh.base id' o' loc' k2' q1' n2).1
   rcases (hh2.base i o1 loc k1 q1 n1).2.2 with hx | hx
   .have : w.heap.size <= loc.b := hx
    omega
   rw [hb] at hx; exact hno hx
  obtain ⟨lc, q1, _⟩ := hh.obj id o k2
  have e1 := μ3o id lc q1
  rw [m1'] at e1
  cases e1
  rcases cases' id' o' g2 with ⟨i', o1', k1', k2', k3', k4', k5'⟩ | ⟨k1', k2'⟩
  .exfalso
   obtain ⟨lc', q1', _⟩ := hh2.obj i' o1' k1'
   have e1' := name i' lc' k4' q1'
   rw [k2', m2'] at e1'
   cases e1'
   have hno := other id o loc k1 k2 q1 n1
   have hsz' := (hh.base id o loc k2 q1 n1).1
   rcases (hh2.base i' o1' loc' k1' q1' n2).2.2 with hx | hx
   .have : w.heap.size <= loc'.b := hx
    omega
   rw [<- hb] at hx; exact hno hx
  obtain ⟨lc', q1', _⟩ := hh.obj id' o' k2'
  have e1' := μ3o id' lc' q1'
  rw [m2'] at e1'
  cases e1'
  exact hh.inj _ _ _ _ _ _ k2 k2' q1 q1' n1 n2 hb
 .rintro id ⟨hid, hid2⟩
  by_cases hx : ∃ i, m <= i /\ nw i = id
  .obtain ⟨i, h1', h2'⟩ := hx
   rw [<- h2', μ3n i h1']
   refine hh2.fresh _ ?_
   simp only [Fr]
   exact Nat.le_of_not_lt fun hlt => hid2 i h1' hlt h2'.symm
  simp only [μ3, dif_neg hx]
  exact hh.fresh id hid
 .intro id o loc g1 g2 g3
  rcases cases' id o g1 with ⟨i, o1, k1, k2, k3, k4, k5⟩ | ⟨k1, k2⟩
  .obtain ⟨lc, q1, _⟩ := hh2.obj i o1 k1
   have e1 := name i lc k4 q1
   rw [k2, g2] at e1
   cases e1
   obtain ⟨b1, b2, b3⟩ := hh2.base i o1 loc k1 q1 g3
   refine ⟨b1, fun hO => b2 ⟨.inl hO, fun hm' => ?_⟩, ?_⟩
   .obtain ⟨_, i', j', o', loc', g1', g2', g3', g4', g5', g6'⟩ := mine _ hm'
    rw [<- g6'] at hO
    exact (hh.base j' _ loc' g3' g4' g5').2.1 hO
   rcases b3 with hx | hx
   .exact .inl (Nat.le_trans hh.size hx)
   obtain ⟨_, i', j', o', loc', g1', g2', g3', g4', g5', g6'⟩ := mine _ hx
   rw [<- g6']
   exact (hh.base j' _ loc' g3' g4' g5').2.2
  obtain ⟨lc, q1, _⟩ := hh.obj id o k2
  have e1 := μ3o id lc q1
  rw [g2] at e1
  cases e1
  obtain ⟨b1, b2, b3⟩ := hh.base id o loc k2 q1 g3
  exact ⟨Nat.lt_of_lt_of_le b1 hh2.size, b2, b3⟩
 .intro b hb hnf
  have hnm : ¬ Bm μ' H b := by
   intro hm'
   obtain ⟨_, i', j', o', loc', g1', g2', g3', g4', g5', g6'⟩ := mine _ hm'
   have := (hh.base j' _ loc' g3' g4' g5').2.2
   rw [g6'] at this
   rcases this with hx | hx
   .omega
   exact hnf hx
  rw [hh2.block b (Nat.lt_of_lt_of_le hb hh.size) hnm]
  exact hh.block b hb hnf
 have oneA : ∀ v x, moA gl m x = true -> Aa (Af A μ3 (HT (Cg gl nw) h1 ++ B6 (gl.map (·.2)) h)) μ'' w' v x -> Aa (Af A μ3 (HT (Cg gl nw) h1 ++ B6 (gl.map (·.2)) h)) μ3 w' v (mrA (Cg gl nw) x) := by
  intro v x hx hv
  cases x with
  | agg xs =>
   cases hv with
   | agg vs' _ hsz' hxs =>
    refine .agg vs' _ (by simpa using hsz') fun i v x hv hx' => ?_
    rw [List.getElem?_map] at hx'
    cases hc : xs[i]? with
    | none => rw [hc] at hx'; cases hx'
    | some y =>
     rw [hc] at hx'
     cases hx'
     exact one v y (List.all_eq_true.1 hx y (List.mem_of_getElem? hc)) (hxs i v y hv hc)
  | p d => exact one v _ hx hv
  | lsl id sz off len => exact one v _ hx hv
  | lpb id off => exact one v _ hx hv
  | lpe id i off => exact one v _ hx hv
  | lmap id => exact one v _ hx hv
  | und => exact one v _ hx hv
  | any => exact one v _ hx hv
  | tup l => exact one v _ hx hv
  | fn f l => exact one v _ hx hv
 cases l with
 | tup xs =>
  cases hu2 with
  | tup vs' _ hsz' hxs =>
   refine .tup vs' _ (by simpa using hsz') fun i v x hv hx => ?_
   rw [List.getElem?_map] at hx
   cases hc : xs[i]? with
   | none => rw [hc] at hx; cases hx
   | some y =>
    rw [hc] at hx
    cases hx
    exact oneA v y (List.all_eq_true.1 hL y (List.mem_of_getElem? hc)) (hxs i v y hv hc)
 | p d => exact oneA u (.p d) hL hu2
 | lsl id sz off len => exact oneA u (.lsl id sz off len) hL hu2
 | lpb id off => exact oneA u (.lpb id off) hL hu2
 | lpe id i off => exact oneA u (.lpe id i off) hL hu2
 | lmap id => exact oneA u (.lmap id) hL hu2
 | und => exact oneA u .und hL hu2
 | any => exact oneA u .any hL hu2
 | agg l => exact oneA u (.agg l) hL hu2
 | fn f l => exact oneA u (.fn f l) hL hu2
theorem AAW {k : Nat} {H H1 : AP} {m m1 : Nat} {ls : List LV} {L : LV} (hM : ∀ A : BD, (∀ id, A.μ0 id ≠ none -> id < m) -> Cy P A H m k ls (fun l h c => l = L /\ h = H1 /\ c = m1))
  (gl : List (Nat × Nat)) {A : BD} {h : AP} {c : Nat} {F : Nat -> Prop} (hF : ∀ q, c <= q -> F q) (hB : Um gl m m1 H H1 = true) (hobj : NJ (MG gl m c) h H) (hls : ls.all (Oa gl m) = true) (hL : Z1 gl m L = true)
  {μ : Nat -> Option BQ} {w : World} {vs : Array Value} (hh : HRel A μ h F w) (hsz : vs.size = ls.length) (hr : ∀ (i : Nat) (v : Value) (x : LV), vs[i]? = some v -> (ls.map (QO (MG gl m c)))[i]? = some x -> Aa (Af A μ h) μ w v x) :
  Calls P k vs w fun en w' => ∃ u μ', en = .returned u /\ HRel A μ' (HT (MG gl m c) H1 ++ B6 (gl.map (·.2)) h) (fun q => F q /\ (q < c \/ c + (m1 - m) <= q)) w' /\ Aa (Af A μ' (HT (MG gl m c) H1 ++ B6 (gl.map (·.2)) h)) μ' w' u (Z0 (MG gl m c) L) /\ ∀ v x, Aa (Af A μ h) μ w v x -> Aa (Af A μ' (HT (MG gl m c) H1 ++ B6 (gl.map (·.2)) h)) μ' w' v x := by
 refine (AAV hM gl (fun i => c + (i - m)) (fun i hi => hF _ (by omega)) (fun i i' h1 h2 h3 => by omega) hB hobj hls hL hh hsz hr).mono ?_
 rintro e w' ⟨u, μ', he, g, hu, hk⟩
 refine ⟨u, μ', he, ⟨g.obj, g.inj, fun id hid => g.fresh id ⟨hid.1, fun i h1 h2 h3 => ?_⟩, g.base, g.size, g.block, g.os, g.tape, g.output, g.ext⟩, hu, hk⟩
 have := hid.2; omega
theorem WU {k : Nat} {H H1 : AP} {m m1 : Nat} {ls : List LV} {L : LV} (hM : ∀ A : BD, (∀ id, A.μ0 id ≠ none -> id < m) -> Cy P A H m k ls (fun l h c => l = L /\ h = H1 /\ c = m1))
  (gl : List (Nat × Nat)) {A : BD} {h : AP} {c : Nat} {K : LV -> AP -> Nat -> Prop} (hB : Um gl m m1 H H1 = true) (hobj : NJ (MG gl m c) h H) (hls : ls.all (Oa gl m) = true) (hL : Z1 gl m L = true)
  (hK : K (Z0 (MG gl m c) L) (HT (MG gl m c) H1 ++ B6 (gl.map (·.2)) h) (c + (m1 - m))) : Cy P A h c k (ls.map (QO (MG gl m c))) K := by
 refine ⟨(hM ⟨default, fun _ => False, fun _ => False, fun _ => none, fun _ h => h.elim⟩ (fun _ h => absurd rfl h)).1, fun μ w vs hh hsz hr => ?_⟩
 refine (AAW hM gl (fun q hq => by simp only [Fr]; omega) hB hobj hls hL hh (by simpa using hsz) hr).mono ?_
 rintro e w' ⟨u, μ', he, g, hu, hk⟩
 exact ⟨u, _, _, _, μ', he, hK, ⟨g.obj, g.inj, fun id hid => g.fresh id (by simp only [Fr] at hid ⊢; omega), g.base, g.size, g.block, g.os, g.tape, g.output, g.ext⟩, hu, hk⟩
end
def ZR (P : Program) (k : Nat) (H : AP) (c : Nat) (args : List LV) (L : LV) (H1 : AP) (C : Nat) : Prop :=
 ∀ A : BD, (∀ id, A.μ0 id ≠ none -> id < c) -> Cy P A H c k args fun l h c' => l = L /\ h = H1 /\ c' = C
section
variable {P : Program} {AD : A5}
theorem fnM (hE : BC P AD) {k : Nat} {fn : Func} {cd : Code} (hfun : P.funcs[k]? = some fn) (nt' : Nat) (rs : List ResultVar) (sl' : List (Nat × LV)) (hb : fn.body = some cd) (hn : (fn.name == "runtime.NumGoroutine") = false) (hnt : Nat.beq fn.ntmps nt' = true) (hrs : fn.results.toList = rs)
  {H H1 : AP} {c C : Nat} {ls : List LV} {L : LV} (hlen : Nat.ble ls.length nt' = true) (hsl : MA 0 ls = sl')
  (body : ∀ A : BD, (∀ id, A.μ0 id ≠ none -> id < c) -> B2 P A cd (IP AD.tt rs A L H1 C) ⟨nt', sl', H, c⟩) : ZR P k H c ls L H1 C := by
 intro A hA
 subst hsl
 refine UU hE hfun hb hn nt' (Nat.eq_of_beq_eq_true hnt) rs hrs (Nat.le_of_ble_eq_true hlen) fun A' hA' => ?_
 refine LJ (WO (body A' hA')) fun e s q => ?_
 have fin : (I7 AD.tt rs s = some L /\ s.heap = H1 /\ s.ctr = C) -> ∃ l, I7 AD.tt rs s = some l /\ l = L /\ s.heap = H1 /\ s.ctr = C := fun ⟨q1, q2, q3⟩ => ⟨_, q1, rfl, q2, q3⟩
 cases e <;> first | exact fin q | exact q.elim
section
variable {A : BD} {f : St -> Prop} {hf : H5 f} {nt : Nat} {sl : List (Nat × LV)} {h : AP} {c : Nat}
theorem WS {k : Nat} {H H1 : AP} {m m1 : Nat} {ls : List LV} {L L' : LV} (hM : ZR P k H m ls L H1 m1) (gl : List (Nat × Nat)) {h' : AP} {c' : Nat} {dst : Option Tmp} {fo : Operand} {args : Array Operand} {ts : Array TypeId}
  (hB : Um gl m m1 H H1 = true) (hobj : NJ (MG gl m c) h H) (hls : ls.all (Oa gl m) = true) (hfn : BF nt sl fo = .fn k []) (hl : EW nt sl args.toList some = some (ls.map (QO (MG gl m c))))
  (hh : HT (MG gl m c) H1 ++ B6 (gl.map (·.2)) h = h') (hc : c + (m1 - m) = c') (hL : Z1 gl m L = true) (hL' : Z0 (MG gl m c) L = L') (kk : f (match dst with | some d => ⟨nt, (d, L') :: sl, h', c'⟩ | none => ⟨nt, sl, h', c'⟩)) :
  BE P A AD ⟨nt, sl, h, c⟩ dst (.call ⟨.value fo, args, ts⟩) ⟨f, hf⟩ := by
 rw [BH (h := h) (c := c)] at hfn
 show ON _ _
 rw [hfn]
 show Jy P A h c k (args.toList.map _ ++ []) _
 rw [Io hl, List.append_nil]
 refine WU hM gl hB hobj hls hL ?_
 rw [hh, hc, hL']
 show f (St.go ⟨nt, sl, h, c⟩ dst L' h' c')
 rw [Ps]
 cases dst <;> exact kk
end
end
end Go.E
/- Loops over maps, in whatever order (loopA); iterators. No condition. -/
namespace Go.E
open Go Go.RowKit
section
variable {σ α Ans : Type}
open Classical in
end
section
variable {P : Program} {A : BD} {AD : A5} {st : St} {σ α Ans : Type}
end
section
variable {P : Program} {A : BD} {AD : A5} {f : St -> Prop} {hf : H5 f} {nt : Nat} {sl : List (Nat × LV)} {h : AP} {c : Nat} {d : Tmp} {κ υ : Type} {ke : κ -> DV} {ve : υ -> DV}
end
end Go.E
/- Drawn regions whose last operation waits for all others: it is run as in the text's order (a call that turns an object, a call that hands back an own row). Condition: the checks, by kernel. -/
namespace Go.E
open Go Go.RowKit
def JR (o : Oper) : Oper := { o with dst := none, op := .move (.tmp 0), guard := none }
def NI : List Oper -> List Oper
 | [] => []
 | [o] => [JR o]
 | o :: o' :: r => o :: NI (o' :: r)
theorem QN (o : Oper) : ∀ l : List Oper, NI (l ++ [o]) = l ++ [JR o]
 | [] => rfl
 | [a] => rfl
 | a :: b :: l => by
  have := QN o (b :: l)
  simp only [List.cons_append] at this ⊢
  rw [NI, this]
def Ri (md : Region.Mode) (ops : Array Oper) : List Nat -> List Nat -> Bool
 | _, [] => true
 | done, i :: r => (match ops[i]? with
  | some o => o.after.all fun x => !Region.binds md x || done.contains x.on
  | none => false) && Ri md ops (i :: done) r
def PO (md : Region.Mode) (ops : Array Oper) : List Nat -> List Nat -> Bool
 | _, [] => true
 | later, j :: r => (later.any fun k => match ops[k]? with
  | some o => o.after.any fun x => Region.binds md x && x.on == j
  | none => false) && PO md ops (j :: later) r
def WT (ops : Array Oper) (L : Nat) : Bool := ops.all fun o => match o.guard with
 | some (j, _) => !(j == L)
 | none => true
def YQ (md : Region.Mode) (ops : Array Oper) (listed : Array Bool) : Prop := ∀ i, listed.getD i false = true -> ∀ o, ops[i]? = some o -> ∀ x ∈ o.after, Region.binds md x = true -> listed.getD x.on false = true
section
variable {P : Program} {A : BD} {AD : A5} {md : Region.Mode} {ops : Array Oper} {base : Nat} {K : St -> Prop}
theorem Rj {listed : Array Bool} (hr : Region.ready md ops listed = []) : ∀ (order done : List Nat), (∀ i ∈ done, listed.getD i false = true) -> (∀ i ∈ order, i < listed.size) -> Ri md ops done order = true -> ∀ i ∈ order, listed.getD i false = true
 | [], _, _, _, _, i, hi => by simp at hi
 | k :: r, done, hd, hs, ht, i, hi => by
  simp only [Ri, Bool.and_eq_true] at ht
  have hk : listed.getD k false = true := by
   cases hl : listed.getD k false with
   | true => rfl
   | false =>
    exfalso
    cases ho : ops[k]? with
    | none => rw [ho] at ht; simp at ht
    | some o =>
     rw [ho] at ht
     have hks := hs k (by simp)
     have : k ∈ Region.ready md ops listed := mem_ready.2 ⟨by
      simp only [Array.getD_eq_getD_getElem?, Array.getElem?_eq_getElem hks, Option.getD_some] at hl ⊢; exact hl, o, ho, fun x hx hb => by
      have h1 := Array.all_eq_true'.1 ht.1 x hx
      simp only [hb, Bool.not_true, Bool.false_or, List.contains_iff_mem] at h1
      exact hd _ h1⟩
     rw [hr] at this
     cases this
  rcases List.mem_cons.1 hi with rfl | hi
  .exact hk
  exact Rj hr r (k :: done) (fun j hj => by
  rcases List.mem_cons.1 hj with rfl | hj
  .exact hk
  exact hd j hj) (fun j hj => hs j (by simp [hj])) ht.2 i hi
theorem PP {listed : Array Bool} (hc : YQ md ops listed) : ∀ (others later : List Nat), (∀ k ∈ later, ∀ o, ops[k]? = some o -> ∀ x ∈ o.after, Region.binds md x = true -> listed.getD x.on false = true) -> PO md ops later others = true -> ∀ j ∈ others, listed.getD j false = true
 | [], _, _, _, j, hj => by simp at hj
 | k :: r, later, hl, h, j, hj => by
  simp only [PO, Bool.and_eq_true, List.any_eq_true] at h
  obtain ⟨⟨m, hm, h1⟩, h2⟩ := h
  have hk : listed.getD k false = true := by
   cases ho : ops[m]? with
   | none => rw [ho] at h1; cases h1
   | some o =>
    rw [ho] at h1
    obtain ⟨x, hx, hx2⟩ := Array.any_eq_true'.1 h1
    simp only [Bool.and_eq_true, beq_iff_eq] at hx2
    rw [<- hx2.2]
    exact hl m hm o ho x hx hx2.1
  rcases List.mem_cons.1 hj with rfl | hj
  .exact hk
  exact PP hc r (k :: later) (fun i hi => by
   rcases List.mem_cons.1 hi with rfl | hi
   .exact hc _ hk
   exact hl i hi) h2 j hj
theorem YR {Q' : Exit -> Act -> World -> Prop} {listed : Array Bool} (hr : Region.ready md ops listed = []) {a : Act} {w : World} (h : Q' .normal a w) : ∀ fuel, wpAny P md ops Q' fuel listed a w
 | 0 => ⟨hr, h⟩
 | fuel + 1 => ⟨fun _ => h, fun i hi => by rw [hr] at hi; cases hi⟩
theorem XS (hE : BC P AD) {ops' : Array Oper} {n L : Nat} {oL : Oper} (hn : n = ops.size) (hn' : n = ops'.size) (hL : ops[L]? = some oL) (hL' : ops'[L]? = some (JR oL)) (hg : oL.guard = none) (heq : ∀ i, i ≠ L -> ops'[i]? = ops[i]?) (hgs : WT ops L = true)
  {others : List Nat} (hall : ∀ i, i < n -> i = L \/ i ∈ others) (hin : ∀ i ∈ others, i < n) (hLn : L < n) (ht : Ri md ops [] (others ++ [L]) = true) (hch : PO md ops [L] others.reverse = true)
  {Q' : Exit -> Act -> World -> Prop} {F : St -> Prop} (hQ : ∀ st a w, F st -> R A st a w -> Q' .normal a w) (hK : ∀ st, K st -> ∃ st', A9 A { st with ctr := base + n } st' /\ BE P A AD st' oL.dst oL.op ⟨F, ⟨⟩⟩) :
  ∀ (fuel : Nat) (listed : Array Bool) (st : St) (a : Act) (w : World), listed.size = n -> YQ md ops listed -> listed.getD L true = false -> Ih P AD md ops' base K fuel listed st -> RF A (Fl base n listed) st a w -> wpAny P md ops Q' fuel listed a w := by
 have hrd : ∀ listed i, i ∈ Region.ready md ops' listed ↔ i ∈ Region.ready md ops listed := fun listed i => by
  rw [mem_ready, mem_ready]
  by_cases e : i = L
  .subst e
   rw [hL, hL']
   constructor
   .rintro ⟨h1, o, h2, h3⟩; cases h2; exact ⟨h1, oL, rfl, h3⟩
   rintro ⟨h1, o, h2, h3⟩; cases h2; exact ⟨h1, JR oL, rfl, h3⟩
  rw [heq i e]
 have hrd0 : ∀ listed, Region.ready md ops' listed = [] ↔ Region.ready md ops listed = [] := fun listed => by
  simp only [List.eq_nil_iff_forall_not_mem, hrd]
 have hne : ∀ listed : Array Bool, listed.size = n -> listed.getD L true = false -> Region.ready md ops listed ≠ [] := fun listed hs hl h0 => by
  have := Rj h0 (others ++ [L]) [] (fun i hi => by simp at hi) (fun i hi => by
   rcases List.mem_append.1 hi with hi | hi
   .have := hin i hi; omega
   simp at hi; omega) ht L (by simp)
  rw [Array.getD_eq_getD_getElem?, Array.getElem?_eq_getElem (by omega : L < listed.size)] at this hl
  simp only [Option.getD_some] at this hl
  rw [this] at hl; cases hl
 intro fuel
 induction fuel with
 | zero => intro listed st a w hs _ hl hD _; exact absurd ((hrd0 _).1 hD.1) (hne _ hs hl)
 | succ fuel ih =>
  intro listed st a w hs hc hl hD hR
  refine ⟨fun h0 => absurd h0 (hne _ hs hl), fun i hi => ?_⟩
  obtain ⟨o, l, e, ho, hd, hrec⟩ := hD.2 i ((hrd _ _).2 hi)
  obtain ⟨hun, o', ho', hdep⟩ := mem_ready.1 hi
  by_cases hiL : i = L
  .subst hiL
   rw [hL] at ho'; cases ho'
   rw [hL'] at ho; cases ho
   have hoth : ∀ j ∈ others, listed.getD j false = true := fun j hj => PP hc others.reverse [i] (fun k hk o hok x hx hb => by
    simp at hk; subst hk
    rw [hL] at hok; cases hok
    exact hdep x hx hb) hch j (List.mem_reverse.2 hj)
   have hend : Region.ready md ops (listed.setIfInBounds i true) = [] := by
    rw [List.eq_nil_iff_forall_not_mem]
    intro j hj
    obtain ⟨g1, o2, g2, _⟩ := mem_ready.1 hj
    have hjn : j < n := by rw [hn]; exact (Array.getElem?_eq_some_iff.1 g2).1
    by_cases hji : i = j
    .subst hji
     simp [show i < listed.size by omega] at g1
    rw [getD_set_ne true hji] at g1
    rcases hall j hjn with rfl | h
    .exact hji rfl
    have := hoth j h
    rw [Array.getD_eq_getD_getElem?, Array.getElem?_eq_getElem (by omega : j < listed.size)] at this g1
    simp only [Option.getD_some] at this g1
    rw [this] at g1; cases g1
   obtain ⟨st', hev, hk⟩ : ∃ st', GA (apS st (base + i) (JR oL) l e) st' /\ K st' := by
    cases fuel with
    | zero => exact hrec.2
    | succ f => exact hrec.1 ((hrd0 _).2 hend)
   have he : e = .keep := by
    unfold Cm JR at hd
    simp only [B4] at hd
    exact hd.1
   subst he
   have hap : apS st (base + i) (JR oL) l .keep = st := rfl
   rw [hap] at hev
   have hR2 := hR.eqv hev
   have hRR : R A { st' with ctr := base + n } a w := by
    obtain ⟨⟨μ, x1, x2⟩, x3, x4⟩ := hR2
    exact ⟨⟨μ, x1.less fun id hid => .inl hid, x2⟩, x3, x4⟩
   unfold wpOp
   rw [hL]
   have hw : Region.wanted oL (yielded ops a.tmps) = true := by unfold Region.wanted; rw [hg]
   simp only [hw, if_true]
   obtain ⟨st2, hwk, hop⟩ := hK st' hk
   exact .inl (Sj hE (SG hop) (hwk _ _ hRR) fun st'' a' w' hF hR' => YR hend (hQ st'' a' w' hF hR') fuel)
  rw [heq i hiL] at ho
  have hlt : i < n := by rw [hn]; exact (Array.getElem?_eq_some_iff.1 ho).1
  have hd' : Cm P AD ops (st.at (base + i)) o l e := by
   unfold Cm at hd ⊢
   cases hgo : o.guard with
   | none => rw [hgo] at hd; exact hd
   | some g =>
    obtain ⟨j, want⟩ := g
    rw [hgo] at hd
    have hjL : j ≠ L := by
     have := Array.all_eq_true'.1 hgs o (Array.mem_of_getElem? ho)
     rw [hgo] at this
     simpa using this
    have hgl : DJ (st.at (base + i)) ops' j = DJ (st.at (base + i)) ops j := by unfold DJ; rw [heq j hjL]
    simp only [hgl] at hd ⊢
    exact hd
  refine QZ (st := st.at (base + i)) hE ho ⟨hR.ex, hR.nt, hR.defers⟩ (.inr ⟨i, hlt, hun, rfl⟩) ⟨base + n, fun q hq => .inl hq⟩ hd' fun a' w' hR' => ?_
  refine ih _ _ _ _ (by simpa using hs) (fun k hk o2 ho2 x hx hb => ?_) (by rw [getD_set_ne true hiL]; exact hl) hrec ?_
  .by_cases hki : i = k
   .subst hki
    rw [ho] at ho2; cases ho2
    rw [ho] at ho'; cases ho'
    exact getD_set_true (hdep x hx hb)
   rw [getD_set_ne false hki] at hk
   exact getD_set_true (hc k hk o2 ho2 x hx hb)
  have hR'' : RF A (fun id => Fl base n listed id /\ id ≠ base + i) (apS st (base + i) o l e) a' w' := by
   obtain ⟨⟨μ, x1, x2⟩, x3, x4⟩ := hR'
   refine ⟨⟨μ, ?_, fun t ht => ?_⟩, ?_, x4⟩
   .rw [Bc] at x1 ⊢; exact x1
   .have := x2 t (by rw [GB] at ht ⊢; exact ht)
    rw [Bc, CV] at this
    rw [Bc, CV]; exact this
   rw [GB] at x3 ⊢; exact x3
  obtain ⟨⟨μ, x1, x2⟩, x3, x4⟩ := hR''
  refine ⟨⟨μ, x1.less fun id hid => ?_, x2⟩, x3, x4⟩
  rcases hid with hid | ⟨k, hk1, hk2, rfl⟩
  .exact ⟨.inl hid, by omega⟩
  have hik : i ≠ k := by
   rintro rfl
   simp [show i < listed.size by omega] at hk2
  exact ⟨.inr ⟨k, hk1, by rw [getD_set_ne true hik] at hk2; exact hk2, rfl⟩, by omega⟩
def Jm : List Oper -> Option Oper
 | [] => none
 | [o] => some o
 | _ :: o :: r => Jm (o :: r)
theorem PQ {o : Oper} : ∀ {l : List Oper}, Jm l = some o -> ∃ pre, l = pre ++ [o]
 | [a], h => by simp [Jm] at h; subst h; exact ⟨[], rfl⟩
 | a :: b :: l, h => by
  obtain ⟨pre, e⟩ := PQ (l := b :: l) (by simpa [Jm] using h)
  exact ⟨a :: pre, by rw [e]; rfl⟩
def YS (ops : List Oper) (others : List Nat) : Bool :=
 match Jm ops with
 | none => false
 | some o => o.guard.isNone && (WT ops.toArray (ops.length - 1) && ((List.range ops.length).all (fun i => Nat.beq i (ops.length - 1) || others.contains i) && ((others.all fun i => Nat.blt i ops.length) &&
   (Ri .any ops.toArray [] (others ++ [ops.length - 1]) && PO .any ops.toArray [ops.length - 1] others.reverse))))
theorem ACV (q : Bool) (hE : BC P AD) (hm : P.follows .mixedOrders = true) {id : Nat} {ops : List Oper} {Q : Exit -> St -> Prop} {nt : Nat} {sl : List (Nat × LV)} {h : AP} {c : Nat} (others : List Nat) (n : Nat) {oL : Oper}
  (hq : (!q || AD.calm.isSome) = true) (hlast : Jm ops = some oL) (hcl : YS ops others = true) (hok : Iz q AD.own .any (NI ops).toArray (others ++ [ops.length - 1]) (Array.replicate ops.length false) = true) (hl : Nat.beq (others.length + 1) ops.length = true) (hn : Nat.beq ops.length n = true)
  (k : DI P A AD c n ⟨fun st => BE P A AD st oL.dst oL.op ⟨Q .normal, ⟨⟩⟩, ⟨⟩⟩ (Gp (NI ops) (others ++ [n - 1])) ⟨nt, sl, h, c⟩) : B2 P A (.region id ops.toArray true) Q ⟨nt, sl, h, c⟩ := fun a w hR => by
 have hn' := Nat.eq_of_beq_eq_true hn
 subst hn'
 have hq' : q = true -> ∃ b, AD.calm = some b := fun e => by subst e; exact Option.isSome_iff_exists.1 (by simpa using hq)
 obtain ⟨pre, rfl⟩ := PQ hlast
 unfold YS at hcl
 rw [hlast] at hcl
 simp only [Bool.and_eq_true, Option.isNone_iff_eq_none] at hcl
 obtain ⟨g0, g1, g2, g3, g4, g5⟩ := hcl
 have hlen : (pre ++ [oL]).length - 1 = pre.length := by simp
 rw [hlen] at g1 g2 g4 g5 hok k
 rw [QN] at hok k
 have hsz : (pre ++ [JR oL]).length = (pre ++ [oL]).length := by simp
 have hb : ((others ++ [pre.length]).all fun i => decide (i < (pre ++ [JR oL]).length)) = true := by
  rw [List.all_eq_true] at g3 ⊢
  intro i hi
  rcases List.mem_append.1 hi with hi | hi
  .have := Nat.le_of_ble_eq_true (g3 i hi)
   simp only [List.length_append, List.length_cons, List.length_nil, decide_eq_true_eq] at this ⊢
   omega
  simp at hi; subst hi; simp
 rw [<- hsz] at k hok
 have hd := KP (others ++ [pre.length]) _ hb k
 refine wp_region_any hm ?_
 have hR' := (hR.drawn (w.drawn + 1)).toRF
 have hfr : ∀ k, AJ (c + k) h = none := by
  intro k
  cases hx : AJ (c + k) h with
  | none => rfl
  | some o =>
   obtain ⟨⟨μ, hh, _⟩, _, _⟩ := hR
   obtain ⟨loc, h1, _⟩ := hh.obj _ _ hx
   rw [hh.fresh _ (by simp [Fr])] at h1; cases h1
 have hD := Kk q hq' (others ++ [pre.length]) (Array.replicate (pre ++ [JR oL]).length false) ⟨nt, sl, h, c⟩ hok (fun k _ => hfr k) hd
 have hol : (others ++ [pre.length]).length = (pre ++ [oL]).length := by
  have := Nat.eq_of_beq_eq_true hl
  simpa using this
 rw [hol, hsz] at hD
 have hs2 : (pre ++ [oL]).toArray.size = (pre ++ [oL]).length := by simp
 rw [hs2]
 have hL0 : pre.length < (pre ++ [oL]).length := by simp
 refine XS (A := A) (n := (pre ++ [oL]).length) (L := pre.length) (oL := oL) (ops' := (pre ++ [JR oL]).toArray) (F := Q .normal) (base := c) hE (by simp) (by simp) (by simp) (by simp) g0 (fun i hi => ?_) g1 (others := others) (fun i hi => ?_) (fun i hi => ?_) hL0 g4 g5
  (fun st a w hF hRR => ⟨st, hRR, hF⟩) (fun st hK => ⟨_, A9.refl _, hK⟩) (pre ++ [oL]).length _ _ a _ (by simp) (fun i hi => ?_) ?_ hD ?_
 .simp only [List.getElem?_toArray]
  rcases Nat.lt_trichotomy i pre.length with h' | h' | h'
  .rw [List.getElem?_append_left h', List.getElem?_append_left h']
  .exact absurd h' hi
  rw [List.getElem?_eq_none (by simp; omega), List.getElem?_eq_none (by simp; omega)]
 .have := List.all_eq_true.1 g2 i (List.mem_range.2 hi)
  simp only [Bool.or_eq_true, List.contains_iff_mem] at this
  exact this.imp (fun h => Nat.eq_of_beq_eq_true h) fun h => h
 .exact Nat.le_of_ble_eq_true (List.all_eq_true.1 g3 i hi)
 .exfalso
  rw [Array.getD_eq_getD_getElem?] at hi
  rcases Nat.lt_or_ge i (pre ++ [oL]).length with h' | h'
  .rw [Array.getElem?_eq_getElem (by simpa using h')] at hi; simp at hi
  rw [Array.getElem?_eq_none (by simpa using h')] at hi; simp at hi
 .rw [Array.getD_eq_getD_getElem?, Array.getElem?_eq_getElem (by simp)]; simp
 obtain ⟨⟨μ, x1, x2⟩, x3, x4⟩ := hR'
 refine ⟨⟨μ, x1.less fun id hid => ?_, x2⟩, x3, x4⟩
 rcases hid with hid | ⟨k, _, _, rfl⟩
 .simp only [Fr]; omega
 simp [Fr]
end
section
variable {α : Type} {enc : α -> List DV} {l r : List α} {h : AP} {e sz : Nat}
end
def Ua {α : Type} (z : α) (l y : List α) : Option (List α) := if y.length = 0 \/ l.length < y.length then none else some (l.take (l.length - y.length) ++ List.replicate y.length z)
theorem ZP {α : Type} {z : α} {l y r : List α} (h : Ua z l y = some r) : l.length = r.length := by
 unfold Ua at h
 split at h
 .cases h
 cases h; simp; omega
section
variable {P : Program} {A : BD} {AD : A5} {α : Type} {enc : α -> List DV} {nt : Nat} {sl : List (Nat × LV)} {h h' : AP} {c : Nat} {f : St -> Prop} {hf : H5 f} {x : Operand} {t : Nat}
def ABI (AD : A5) (t e : Nat) (z : List DV) : Bool := match AD.tt t with
 | some ti => match ti.sh with
  | .slc e' => Nat.beq e' e && (match AD.tt e with
   | some te => !te.sh.isAgg && te.zero.all DV.cell
   | none => false)
  | _ => false
 | none => false
theorem ABy {z : α} {l y r : List α} {n m : Int} {id e : Nat} {args : Array Operand} {ts : Array TypeId} (hy : ME l n m = some y) (hend : m = l.length) (hr : Ua z l y = some r) (ha : args.toList = [x]) (hts : ts.toList.head? = some t)
  (ht : ABI AD t e (enc z) = true) (hz : (AD.tt e).map (·.zero) = some (enc z)) (hx : BF nt sl x = .lsl id 1 n.toNat (m - n).toNat) (hl : Bf id h = some (.row e 1 (l.map enc))) (hu : Km id (.row e 1 (r.map enc)) h some = some h')
  (kk : f ⟨nt, sl, h', c⟩) : BE P A AD ⟨nt, sl, h, c⟩ none (.call ⟨.builtin .clear, args, ts⟩) ⟨f, hf⟩ := by
 rw [BH (h := h) (c := c)] at hx
 rw [BM] at hl
 rw [GY, Option.some.injEq] at hu
 subst hu hend
 obtain ⟨h1, h2⟩ := Uk hy
 unfold Ua at hr
 split at hr
 .cases hr
 rename_i hne
 cases hr
 unfold ABI at ht
 split at ht
 .rename_i ti hti
  split at ht
  .rename_i e' hsh
   simp only [Bool.and_eq_true] at ht
   obtain ⟨he, ht⟩ := ht
   have he := Nat.eq_of_beq_eq_true he
   subst he
   split at ht
   .rename_i te hte
    simp only [Bool.and_eq_true, Bool.not_eq_true'] at ht
    rw [hte] at hz
    simp only [Option.map_some, Option.some.injEq] at hz
    obtain ⟨tl, htl⟩ : ∃ tl, ts.toList = t :: tl := by
     cases hq : ts.toList with
     | nil => rw [hq] at hts; cases hts
     | cons a b => rw [hq] at hts; cases hts; exact ⟨b, rfl⟩
    show I1 P A AD _ none _ _
    unfold I1
    simp only [ha, htl]
    have hylen : y.length = ((l.length : Int) - n).toNat := by rw [<- h2]; simp; omega
    refine ⟨AR.2 ⟨ti, hti, B5.2 ⟨_, hsh, AR.2 ⟨te, hte, ?_⟩⟩⟩, trivial⟩
    show Y8 _ _ _ (St.eval _ x) _
    rw [hx]
    refine ⟨ht.1, rfl, by omega, ht.2, AS.2 ⟨_, hl, ?_⟩⟩
    dsimp only
    refine EV.2 ⟨_, _, _, rfl, ?_⟩
    refine ⟨⟨rfl, rfl, by simp; omega⟩, ?_⟩
    have e1 : (l.take (l.length - y.length) ++ List.replicate y.length z).map enc = (l.map enc).take n.toNat ++ List.replicate ((l.length : Int) - n).toNat te.zero := by
     rw [List.map_append, List.map_replicate, <- hz, <- hylen, List.map_take]
     congr 2
     omega
    rw [<- e1]
    exact kk
   cases ht
  cases ht
 cases ht
end
end Go.E
/- The keys of a map of whole numbers, rising (slices.Sorted over maps.Keys), as a function that hands back a row of its own. For this seat's numbers of functions and types. -/
namespace Go.E
open Go Go.RowKit Go.Shelf Go.Proofs Go.Sort Go.Maps
def Z7 (n : Int) : Bool := (Lit.int .i64 n).wf
def Pj : List Int -> Bool
 | [] => true
 | x :: l => !(l.any fun y => y == x) && Pj l
theorem R5 : ∀ l, Pj l = true ↔ l.Nodup
 | [] => by simp [Pj]
 | x :: l => by
  simp only [Pj, Bool.and_eq_true, Bool.not_eq_true', List.nodup_cons, R5 l, List.any_eq_false, beq_iff_eq]
  constructor
  .rintro ⟨h1, h2⟩; exact ⟨fun hm => h1 x hm rfl, h2⟩
  rintro ⟨h1, h2⟩; exact ⟨fun y hy e => h1 (e ▸ hy), h2⟩
def SR (m : List (Int × Bool)) : Option (List Int) :=
 if decide (m.length * 8 <= 140737488355328) && Pj (m.map (·.1)) && m.all (fun p => Z7 p.1) then some (Ig (m.map (·.1))) else none
def Pk : Ren := ⟨fun n => match n with | 6 => 109 | 7 => 110 | 8 => 144 | 9 => 137 | 10 => 145 | 11 => 164 | n => n, fun n => match n with | 0 => 0 | 3 => 4 | 4 => 4 | 23 => 143 | 24 => 50 | 26 => 3 | 27 => 177 | 28 => 178 | 33 => 151 | n => n, fun n => n⟩
theorem Tx : SlLaysZI.n7 Tryz.prog Pk where
 mixed := by kernel_rfl
 f7 := ⟨Tryz.f110.name, by decide, by exact Tryz.func110⟩
 f10 := ⟨Tryz.f145.name, by decide, by exact Tryz.func145⟩
 t0 := Tryz.underlying0
 a0 := Tryz.isAgg0
 z0 := Tryz.sizeOf0
 v0 := Tryz.zeroValue0
 t4 := Tryz.underlying4
 a4 := Tryz.isAgg4
 z4 := Tryz.sizeOf4
 v4 := Tryz.zeroValue4
 t23 := Tryz.underlying143
 a23 := Tryz.isAgg143
 z23 := Tryz.sizeOf143
 v23 := Tryz.zeroValue143
 t26 := Tryz.underlying3
 a26 := Tryz.isAgg3
 z26 := Tryz.sizeOf3
 v26 := Tryz.zeroValue3
 t27 := Tryz.underlying177
 a27 := Tryz.isAgg177
 z27 := Tryz.sizeOf177
 v27 := Tryz.zeroValue177
 t28 := Tryz.underlying178
 a28 := Tryz.isAgg178
 z28 := Tryz.sizeOf178
 v28 := Tryz.zeroValue178
 t33 := Tryz.underlying151
 a33 := Tryz.isAgg151
 z33 := Tryz.sizeOf151
 v33 := Tryz.zeroValue151
theorem Z8 : SlLaysZI.n6 Tryz.prog Pk where
 mixed := by kernel_rfl
 f6 := ⟨Tryz.f109.name, by decide, by exact Tryz.func109⟩
 f8 := ⟨Tryz.f144.name, by decide, by exact Tryz.func144⟩
 f11 := ⟨Tryz.f164.name, by decide, by exact Tryz.func164⟩
 t0 := Tryz.underlying0
 a0 := Tryz.isAgg0
 z0 := Tryz.sizeOf0
 v0 := Tryz.zeroValue0
 t24 := Tryz.underlying50
 a24 := Tryz.isAgg50
 z24 := Tryz.sizeOf50
 v24 := Tryz.zeroValue50
 t26 := Tryz.underlying3
 a26 := Tryz.isAgg3
 z26 := Tryz.sizeOf3
 v26 := Tryz.zeroValue3
 t28 := Tryz.underlying178
 a28 := Tryz.isAgg178
 z28 := Tryz.sizeOf178
 v28 := Tryz.zeroValue178
 i26 := by kernel_rfl
theorem Yo {ρ : Ren} (Ls : Lays.n189 Tryz.prog ρ) (e : ρ.f 189 = 137) (m : Nat) : AnyZI.SortsIn Tryz.prog Pk Fence.wide m :=
  ⟨fun blk off cap ss W hH hblk hsz => callsIn_wide.2 (by
      have := Any.slices_Sort_int Ls blk off cap ss W hH hblk hsz
      rw [e] at this; exact this),
   fun p cap W => callsIn_wide.2 (by
      have := Any.slices_Sort_int_none Ls p cap W
      rw [e] at this; exact this)⟩
set_option maxHeartbeats 1000000 in
theorem V8 {ρ : Ren} (Ls : Lays.n189 Tryz.prog ρ) (e : ρ.f 189 = 137) {H : Type} (b nn : Nat) (D0 : DataW H) (R : Value -> Option (DataW H × List MemPlace)) (w : World) (hown : w.ownsMap Tryz.prog 3 R b nn D0) (hmax : Maps.size D0 <= maxLen) (hbytes : Maps.size D0 * 8 <= 140737488355328) :
  Calls Tryz.prog 79 #[.map (some b)] w fun e w' => ∃ (v : Value) (ss : List Int), e = .returned v /\ ss.Perm (intKeys D0) /\
   w'.ownsRow w.heap.size 3 1 v ss.length ((ss.mergeSort (fun x y => decide (x <= y))).map encZ) /\ (v = .slice none 0 0 ↔ ss = []) /\ Below w.heap.size w w' := by
 refine (callsIn_wide (n := 6)).1 ?_
 have hbl := hown.lt
 have hseq : SeqGives Fence.wide 2 Tryz.prog 145 #[.pointer (some ⟨w.heap.size, 0, none⟩)] encZ (fun ss => ss.Perm (intKeys D0)) (Maps.size D0) (w.alloc (.cells #[.map (some b)] 143)) :=
  AnyZI.keys_gives (ρ := Pk) { Tx with } Fence.wide _ trivial rfl (by omega) w.heap.size b nn D0 _ (by simp) (by simp) (by
   obtain ⟨es, clock, hb, Ft, hs, hD⟩ := hown
   exact ⟨es, clock, (Below.heap_alloc _ _ b hbl).trans hb, Ft, hs, hD⟩)
 have cK : ∀ mb W, CallsIn Fence.wide 5 Tryz.prog 110 #[.map mb] W fun e w' => e = .returned (.func (.func 145) #[] #[.pointer (some ⟨W.heap.size, 0, none⟩)]) /\ w' = W.alloc (.cells #[.map mb] 143) := fun mb W => AnyZI.keys_in Tx Fence.wide 5 trivial rfl mb W
 have cS := AnyZI.sorted_in Z8 Fence.wide 5 trivial trivial trivial trivial rfl (by omega) (Yo Ls e _) (ED Tryz.func137 rfl rfl) 145 #[.pointer (some ⟨w.heap.size, 0, none⟩)] trivial (ED Tryz.func145 rfl rfl) _ _ hmax hbytes _ hseq
 change CallsIn _ _ Tryz.prog 109 _ _ _ at cS
 have hfK : Fence.wide.fn 110 := trivial
 have hfS : Fence.wide.fn 109 := trivial
 refine callsIn_of_wp Tryz.func79 rfl trivial ?_ rfl
 simp only [Tryz.ntmps79, List.size_toArray, List.length_cons, List.length_nil, Nat.reduceAdd, Nat.reduceSub, Array.replicate_succ, Array.replicate_zero, List.push_toArray, List.append_toArray, List.nil_append, List.cons_append]
 gi_wp2_with (first
  | (gi_at_call 110; refine (cK _ _).mono ?_; rintro e w' ⟨rfl, rfl⟩)
  | (gi_at_call 109; refine cS.mono ?_; rintro e w' ⟨v, ss, rfl, hS, hrow, hnil, hb⟩))
 go_ret
 exact ⟨v, ss, rfl, hS, ownsRow_base_a hrow (by simp), hnil, ((Below.refl _ w).alloc (Nat.le_refl _) _).trans (hb.mono (by simp))⟩
set_option maxHeartbeats 1000000 in
theorem Xq {ρ : Ren} (Ls : Lays.n189 Tryz.prog ρ) (e : ρ.f 189 = 137) (w : World) : Calls Tryz.prog 79 #[.map none] w fun e w' => e = .returned (.slice none 0 0) /\ Below w.heap.size w w' := by
 refine (callsIn_wide (n := 6)).1 ?_
 have hseq : SeqGives Fence.wide 2 Tryz.prog 145 #[.pointer (some ⟨w.heap.size, 0, none⟩)] encZ (fun ss : List Int => ss = []) 0 (w.alloc (.cells #[.map none] 143)) :=
  AnyZI.keys_gives_nil (ρ := Pk) { Tx with } Fence.wide _ trivial rfl w.heap.size _ (by simp) (by simp)
 have cK : ∀ mb W, CallsIn Fence.wide 5 Tryz.prog 110 #[.map mb] W fun e w' => e = .returned (.func (.func 145) #[] #[.pointer (some ⟨W.heap.size, 0, none⟩)]) /\ w' = W.alloc (.cells #[.map mb] 143) := fun mb W => AnyZI.keys_in Tx Fence.wide 5 trivial rfl mb W
 have cS := AnyZI.sorted_in Z8 Fence.wide 5 trivial trivial trivial trivial rfl (by omega) (Yo Ls e _) (ED Tryz.func137 rfl rfl) 145 #[.pointer (some ⟨w.heap.size, 0, none⟩)] trivial (ED Tryz.func145 rfl rfl) _ 0 (Nat.zero_le _) (by omega) _ hseq
 change CallsIn _ _ Tryz.prog 109 _ _ _ at cS
 have hfK : Fence.wide.fn 110 := trivial
 have hfS : Fence.wide.fn 109 := trivial
 refine callsIn_of_wp Tryz.func79 rfl trivial ?_ rfl
 simp only [Tryz.ntmps79, List.size_toArray, List.length_cons, List.length_nil, Nat.reduceAdd, Nat.reduceSub, Array.replicate_succ, Array.replicate_zero, List.push_toArray, List.append_toArray, List.nil_append, List.cons_append]
 gi_wp2_with (first
  | (gi_at_call 110; refine (cK _ _).mono ?_; rintro e w' ⟨rfl, rfl⟩)
  | (gi_at_call 109; refine cS.mono ?_; rintro e w' ⟨v, ss, rfl, rfl, hrow, hnil, hb⟩; obtain rfl : v = .slice none 0 0 := hnil.2 rfl))
 go_ret
 exact ⟨rfl, ((Below.refl _ w).alloc (Nat.le_refl _) _).trans (hb.mono (by simp))⟩
theorem Yp : 140737488355328 <= maxLen := Nat.le_of_ble_eq_true rfl
theorem V9 {O : Nat -> Prop} {w : World} {b : Nat} {es : Array MapEntry} {clock : Nat} {m : List (Int × Bool)} (hb : w.heap[b]? = some (.map es clock)) (hsz : es.size = m.length)
  (hbn : (es.toList.map (·.born)).Nodup /\ ∀ e ∈ es.toList, e.born < clock) (hk : ∀ (i : Nat) (e : MapEntry) (p : Int × Bool), es[i]? = some e -> m[i]? = some p -> As O w e.key (.int .i64 p.1))
  (h1 : m.length <= maxLen) (h2 : (m.map (·.1)).Nodup) (h3 : ∀ p ∈ m, Z7 p.1 = true) :
  ∃ D : DataW Unit, w.ownsMap Tryz.prog 3 (fun _ => some (.nil, [])) b m.length D /\ (intKeys D).Perm (m.map (·.1)) /\ Maps.size D = m.length := by
 have ikey : ∀ (u : Value) (n : Int), As O w u (.int .i64 n) -> u = .int .i64 n := fun u n h => by cases h; rfl
 have key : ∀ (i : Nat) (e : MapEntry), es[i]? = some e -> ∃ p, m[i]? = some p /\ e.key = .int .i64 p.1 := fun i e he => by
  have hi : i < m.length := by have := (Array.getElem?_eq_some_iff.1 he).1; omega
  exact ⟨m[i], by simp [hi], ikey _ _ (hk i e m[i] he (by simp [hi]))⟩
 have ekey : es.toList.map (·.key) = m.map fun p => Value.int .i64 p.1 := by
  apply List.ext_getElem?
  intro i
  simp only [List.getElem?_map, Array.getElem?_toList]
  cases he : es[i]? with
  | none =>
   have : m.length <= i := by have := Array.getElem?_eq_none_iff.1 he; omega
   simp [this]
  | some e =>
   obtain ⟨p, hp, hv⟩ := key i e he
   simp [hp, hv]
 have rdw : ∀ x ∈ es.toList, ∃ n, x.key = .int .i64 n /\ WideElems.rd Tryz.prog 3 (fun _ => some ((.nil : DataW Unit), [])) x = some (.int .i64 n, .nil) := fun x hx => by
  obtain ⟨i, hi, rfl⟩ := List.mem_iff_getElem.1 hx
  obtain ⟨p, hp, hv⟩ := key i es.toList[i] (by rw [<- Array.getElem?_toList]; exact List.getElem?_eq_getElem hi)
  refine ⟨p.1, hv, ?_⟩
  have hw := h3 p (List.mem_of_getElem? hp)
  have hwf : (Lit.int .i64 p.1).wf = true := hw
  unfold WideElems.rd
  rw [hv]
  simp [keyOf, Tryz.underlying3, mapKey, hwf]
 refine ⟨.map ((es.toList.map (WideElems.rg Tryz.prog 3 fun _ => some (.nil, []))).foldr DataW.insert []), ⟨es, clock, hb, ⟨by omega, ⟨hbn.2, hbn.1, ?_⟩, fun x hx => by obtain ⟨n, _, h⟩ := rdw x hx; exact ⟨_, h⟩⟩, by omega, rfl⟩, ?_, ?_⟩
 .rw [ekey]
  rw [show (m.map fun p => Value.int .i64 p.1) = (m.map (·.1)).map (Value.int .i64) by simp [Function.comp_def]]
  exact List.Pairwise.map _ (fun a b hab e => hab (by cases e; rfl)) h2
 .show ((List.foldr DataW.insert [] _).map fun p => intOf p.1).Perm _
  refine ((WideShapes.sorted_perm _).map _).trans ?_
  refine List.Perm.of_eq ?_
  have h1' : ∀ x ∈ es.toList, ((fun p : Lit × DataW Unit => intOf p.1) ∘ WideElems.rg Tryz.prog 3 fun _ => some ((.nil : DataW Unit), [])) x = ((fun v : Value => (match v with | .int _ n => n | _ => 0)) ∘ fun e : MapEntry => e.key) x := fun x hx => by
   obtain ⟨n, hv, h⟩ := rdw x hx
   simp only [Function.comp]
   rw [WideElems.rg_of h, hv]; rfl
  rw [List.map_map, List.map_congr_left h1', <- List.map_map, ekey, List.map_map]
  rfl
 show List.length (List.foldr DataW.insert [] _) = _
 rw [(WideShapes.sorted_perm _).length_eq, List.length_map, Array.length_toList, hsz]
theorem YJ {ρ : Ren} (Ls : Lays.n189 Tryz.prog ρ) (e : ρ.f 189 = 137) (m : List (Int × Bool)) (r : List Int) (h : SR m = some r) : G5 Tryz.prog 79 [.map (Ao (.int .i64) .bool m)] 3 1 (r.map fun n => [.int .i64 n]) := by
 unfold SR at h
 split at h
 .rename_i hc
  cases h
  simp only [Bool.and_eq_true, decide_eq_true_eq, List.all_eq_true, R5] at hc
  obtain ⟨⟨hlen, hnd⟩, hin⟩ := hc
  refine ⟨ED Tryz.func79 rfl rfl, fun O w vs hO hsz hr => ?_⟩
  have hvs : ∃ a, vs = #[a] := by
   obtain ⟨l⟩ := vs
   match l, hsz with
   | [a], _ => exact ⟨a, rfl⟩
  obtain ⟨v0, rfl⟩ := hvs
  have h0 := hr 0 v0 _ rfl rfl
  generalize hgen : DV.map (Ao (.int .i64) .bool m) = dv at h0
  cases h0 with
  | mnil =>
   have hm : m = [] := by
    injection hgen with h
    simpa [Ao] using h
   subst hm
   refine (Xq Ls e w).mono ?_
   rintro en w' ⟨rfl, hb⟩
   exact ⟨_, rfl, ⟨by simp [Ig], .inl ⟨rfl, rfl⟩⟩, hb⟩
  | map b es clock m' hOb hlt hb hsz' hbn hk hv =>
   injection hgen with hgen
   subst hgen
   obtain ⟨D, hown, hperm, hsize⟩ := V9 (m := m) hb (by simpa [Ao] using hsz') hbn (fun i e p he hp => hk i e _ he (by simp [Ao, hp]; rfl)) (Nat.le_trans (by omega) Yp) hnd hin
   refine (V8 Ls e b _ D _ w hown (by rw [hsize]; exact Nat.le_trans (by omega) Yp) (by rw [hsize]; exact hlen)).mono ?_
   rintro en w' ⟨v, ss, rfl, hS, hrow, hnil, hbel⟩
   refine ⟨v, rfl, ⟨fun x hx => by obtain ⟨n, _, rfl⟩ := List.mem_map.1 hx; rfl, ?_⟩, hbel⟩
   have hss : ss.mergeSort (fun x y => decide (x <= y)) = Ig (m.map (·.1)) := by
    rw [<- VM]; exact mergeSort_of_perm_i (hS.trans hperm)
   rw [hss] at hrow
   have hl : (Ig (m.map (·.1))).length = ss.length := by
    rw [<- hss, List.length_mergeSort]
   rcases hrow.2 with ⟨h1, h2⟩ | ⟨g, cap, cur, h1, h2, h3, h4, h5, h6, h7⟩
   .refine .inl ⟨h1, ?_⟩
    have : Ig (m.map (·.1)) = [] := List.length_eq_zero_iff.1 (by omega)
    rw [this]; rfl
   refine .inr ⟨⟨g, 0, none⟩, g, 0, cap, cur, by rw [h1, List.length_map, hl], h2, (Array.getElem?_eq_some_iff.1 h3).1, fun _ => rfl, rfl, rfl, h3, by simpa using h6, by simp [hl]; exact h4, h5, ?_⟩
   intro i j x d u hx hd hu
   simp only [List.getElem?_map, Option.map_eq_some_iff] at hx
   obtain ⟨n, hn, rfl⟩ := hx
   have hj : j = 0 := by
    have := (List.getElem?_eq_some_iff.1 hd).1
    simp at this; omega
   subst hj
   simp only [List.getElem?_cons_zero, Option.some.injEq] at hd
   subst hd
   have hi := (List.getElem?_eq_some_iff.1 hn).1
   have hu' : (cur.toList.take (ss.length * 1))[i]? = some u := by
    rw [List.getElem?_take, if_pos (by omega), Array.getElem?_toList]
    simpa using hu
   rw [h7, List.getElem?_map, hn] at hu'
   cases hu'
   exact .int _ _
  | _ => cases hgen
 cases h
end Go.E
/- The program's data in plain Lean, and how they stand in cells. Written by a program (gen.py). No condition. -/
namespace Go.E
open Go Go.RowKit Go.Proofs
theorem bq {α β : Type} {o : Option α} {f : α -> Option β} {b : β} {G : Prop} (h : o.bind f = some b) (k : ∀ a, o = some a -> f a = some b -> G) : G := by
 obtain ⟨a, h1, h2⟩ := bd h
 exact k a h1 h2
abbrev bx (l : List DV) : BB := .box (l.map .p)
theorem Z {α : Type} {a : α} : a = a := rfl
theorem AL {σ : Type} {A : BD} {S : σ -> St} {st : St} {s t : σ} (h : some s = some t) (hw : A9 A st (S s)) : NP A S t .normal st := by
 cases h; exact npn hw
theorem Ar {σ Ans : Type} {A : BD} {S : σ -> St} {Q : Ans -> Exit -> St -> Prop} {st : St} {s : σ} {b : σ ⊕ Ans} (h : some (.inl s) = some b) (hw : A9 A st (S s)) : LP A S Q b .normal st := by
 cases h; exact lpn hw
theorem BK {σ Ans : Type} {A : BD} {S : σ -> St} {Q : Ans -> Exit -> St -> Prop} {st : St} {x : Ans} {b : σ ⊕ Ans} {id : Nat} (h : some (.inr x) = some b) (k : ∀ a, some x = some a -> Q a (.exit id) st) : LP A S Q b (.exit id) st := by
 cases h; exact lpx (k x rfl)
theorem A3 {σ Ans : Type} {A : BD} {S : σ -> St} {Q : Ans -> Exit -> St -> Prop} {st : St} {x : Ans} {b : σ ⊕ Ans} (h : some (.inr x) = some b) (k : ∀ a, some x = some a -> Q a .ret st) : LP A S Q b .ret st := by
 cases h; exact lpt (k x rfl)
theorem CF {σ Ans : Type} {A : BD} {S : σ -> St} {Q : Ans -> Exit -> St -> Prop} {st : St} {o : Option Ans} {b : σ ⊕ Ans} {id : Nat} (h : o.map .inr = some b) (k : ∀ a, o = some a -> Q a (.exit id) st) : LP A S Q b (.exit id) st := by
 obtain ⟨a, h1, rfl⟩ := mp h; exact lpx (k a h1)
theorem ACg {σ Ans : Type} {A : BD} {S : σ -> St} {Q : Ans -> Exit -> St -> Prop} {st : St} {o : Option Ans} {b : σ ⊕ Ans} (h : o.map .inr = some b) (k : ∀ a, o = some a -> Q a .ret st) : LP A S Q b .ret st := by
 obtain ⟨a, h1, rfl⟩ := mp h; exact lpt (k a h1)

instance : BEq ByteArray := ⟨fun a b => a.toList == b.toList⟩
def AN (n : Int) : Int := IntKind.wrap .i64 n
def Ad (n : Int) : List DV := [.int .i64 n]
def u8C (n : Int) : List DV := [.int .u8 n]
def AB1 (b : Bool) : List DV := [.bool b]
def FU (s : ByteArray) : List DV := [.str s]
def Dq {α : Type} (sz : Nat) (enc : α -> List DV) (l : List α) : List DV := [.slice sz (l.map enc)]
def XK {α : Type} (enc : α -> List DV) (p : Option α) : DV := match p with
 | none => .nilp
 | some x => .place (enc x) 0
def ABB {α : Type} (enc : α -> List DV) (p : Option α) : List DV := [XK enc p]
structure AI where
 elem : Int
 fin : Int
 deriving DecidableEq
def AT (x : AI) : List DV := [.int .i64 x.elem, .int .i64 x.fin]
theorem Jl (x y : AI) : Bh (AT x) (AT y) = (x == y) := by
 rw [Bool.eq_iff_iff]
 rw [beq_iff_eq]
 simp only [AT, Bh, Dc, Bool.and_eq_true, beq_iff_eq, Bool.and_true]
 constructor
 .intro h
  obtain ⟨a1, a2⟩ := x; obtain ⟨b1, b2⟩ := y; simp only at h; simp [h]
 rintro rfl; simp
structure DF where
 a : AI
 b : AI
 deriving DecidableEq
def C0 (x : DF) : List DV := [.int .i64 x.a.elem, .int .i64 x.a.fin, .int .i64 x.b.elem, .int .i64 x.b.fin]
structure C1 where
 name : ByteArray
 kind : Int
 length : Int
 deriving DecidableEq
def CC (x : C1) : List DV := [.str x.name, .int .i64 x.kind, .int .i64 x.length]
structure Bw where
 name : ByteArray
 at_ : AI
 auto : Bool
 deriving DecidableEq
def BW (x : Bw) : List DV := [.str x.name, .int .i64 x.at_.elem, .int .i64 x.at_.fin, .bool x.auto]
structure C2 where
 name : ByteArray
 elems : (List Int)
 deriving DecidableEq
def Bg (x : C2) : List DV := [.str x.name, .slice 1 (x.elems.map Ad)]
structure AK where
 elems : (List C1)
 joins : (List DF)
 signals : (List Bw)
 lines : (List C2)
 top : Int
 brake : Int
 margin : Int
 throw : Int
 hard : Bool
 deriving DecidableEq
def AV (x : AK) : List DV := [.slice 3 (x.elems.map CC), .slice 4 (x.joins.map C0), .slice 4 (x.signals.map BW), .slice 2 (x.lines.map Bg), .int .i64 x.top, .int .i64 x.brake, .int .i64 x.margin, .int .i64 x.throw, .bool x.hard]
structure Bl where
 a0 : Int
 a1 : Int
 deriving DecidableEq
def FC (x : Bl) : List DV := [.int .i64 x.a0, .int .i64 x.a1]
structure Aw where
 p : AK
 next : (List (AI × AI))
 reads : (List (AI × Int))
 line : (List (Int × Bl))
 lead : (List (Int × Int))
 deriving DecidableEq
def Aq (x : Aw) : List DV := [.slice 3 (x.p.elems.map CC), .slice 4 (x.p.joins.map C0), .slice 4 (x.p.signals.map BW), .slice 2 (x.p.lines.map Bg), .int .i64 x.p.top, .int .i64 x.p.brake, .int .i64 x.p.margin, .int .i64 x.p.throw, .bool x.p.hard, .map (Ao (fun x => .agg (AT x)) (fun x => .agg (AT x)) x.next), .map (Ao (fun x => .agg (AT x)) (.int .i64) x.reads), .map (Ao (.int .i64) (fun x => .agg (FC x)) x.line), .map (Ao (.int .i64) (.int .i64) x.lead)]
structure Ab where
 elem : Int
 in_ : Int
 out : Int
 deriving DecidableEq
def Ax (x : Ab) : List DV := [.int .i64 x.elem, .int .i64 x.in_, .int .i64 x.out]
structure Bj where
 out : Int
 pos : Int
 deriving DecidableEq
def Dy (x : Bj) : List DV := [.int .i64 x.out, .int .i64 x.pos]
structure N4 where
 berth : Int
 steps : (List Ab)
 pos : (List Int)
 left : (List (List Bj))
 deriving DecidableEq
def S5 (x : N4) : List DV := [.int .i64 x.berth, .slice 3 (x.steps.map Ax), .slice 1 (x.pos.map Ad), .slice 1 (x.left.map (Dq 2 Dy))]
structure Ap where
 elem : Int
 pos : Int
 deriving DecidableEq
def A1 (x : Ap) : List DV := [.int .i64 x.elem, .int .i64 x.pos]
theorem ZS (x y : Ap) : Bh (A1 x) (A1 y) = (x == y) := by
 rw [Bool.eq_iff_iff]
 rw [beq_iff_eq]
 simp only [A1, Bh, Dc, Bool.and_eq_true, beq_iff_eq, Bool.and_true]
 constructor
 .intro h
  obtain ⟨a1, a2⟩ := x; obtain ⟨b1, b2⟩ := y; simp only at h; simp [h]
 rintro rfl; simp
structure Al where
 frm : Int
 to : Int
 fin : Int
 steps : (List Ab)
 needs : (List Ap)
 guards : (List Ap)
 zone : (List Int)
 holds : (List Int)
 bare : Bool
 deriving DecidableEq
def BL (x : Al) : List DV := [.int .i64 x.frm, .int .i64 x.to, .int .i64 x.fin, .slice 3 (x.steps.map Ax), .slice 2 (x.needs.map A1), .slice 2 (x.guards.map A1), .slice 1 (x.zone.map Ad), .slice 1 (x.holds.map Ad), .bool x.bare]
structure C4 where
 plan : AK
 roads : (List Al)
 deriving DecidableEq
def Cq (x : C4) : List DV := [.slice 3 (x.plan.elems.map CC), .slice 4 (x.plan.joins.map C0), .slice 4 (x.plan.signals.map BW), .slice 2 (x.plan.lines.map Bg), .int .i64 x.plan.top, .int .i64 x.plan.brake, .int .i64 x.plan.margin, .int .i64 x.plan.throw, .bool x.plan.hard, .slice 9 (x.roads.map BL)]
structure A0 where
 name : ByteArray
 len : Int
 top : Int
 acc : Int
 brake : Int
 deriving DecidableEq
def BG (x : A0) : List DV := [.str x.name, .int .i64 x.len, .int .i64 x.top, .int .i64 x.acc, .int .i64 x.brake]
structure Co where
 turn : Bool
 at_ : Int
 fin : Int
 to : Int
 deriving DecidableEq
def Ee (x : Co) : List DV := [.bool x.turn, .int .i64 x.at_, .int .i64 x.fin, .int .i64 x.to]
structure CY where
 name : ByteArray
 stock : Int
 frm : Int
 left : Int
 legs : (List Co)
 deriving DecidableEq
def Bx (x : CY) : List DV := [.str x.name, .int .i64 x.stock, .int .i64 x.frm, .int .i64 x.left, .slice 4 (x.legs.map Ee)]
structure Ag where
 begin : Int
 stock : (List A0)
 runs : (List CY)
 deriving DecidableEq
def AZ (x : Ag) : List DV := [.int .i64 x.begin, .slice 5 (x.stock.map BG), .slice 5 (x.runs.map Bx)]
structure PI where
 free : (List Int)
 fin : Int
 deriving DecidableEq
def Tu (x : PI) : List DV := [.slice 1 (x.free.map Ad), .int .i64 x.fin]
structure Px where
 at_ : (List Int)
 legs : (List PI)
 deriving DecidableEq
def ABC (x : Px) : List DV := [.slice 1 (x.at_.map Ad), .slice 2 (x.legs.map Tu)]
structure JC where
 name : ByteArray
 stock : Int
 at_ : AI
 left : Int
 deriving DecidableEq
def NA (x : JC) : List DV := [.str x.name, .int .i64 x.stock, .int .i64 x.at_.elem, .int .i64 x.at_.fin, .int .i64 x.left]
structure F2 where
 mode : Int
 trail : (List AI)
 left : Int
 over : Int
 v : Int
 deriving DecidableEq
def XH (x : F2) : List DV := [.int .i64 x.mode, .slice 2 (x.trail.map AT), .int .i64 x.left, .int .i64 x.over, .int .i64 x.v]
theorem CI : H2 AD 40 (fun x => .agg (AT x)) := ⟨fun a b => (Jl a b), fun _ => rfl⟩
theorem GJ : H2 AD 3 (.int .i64) := ⟨fun _ _ => rfl, fun _ => rfl⟩
theorem NF : H2 AD 9 .str := ⟨fun _ _ => rfl, fun _ => rfl⟩
def ABG : Go.Shelf.Ren := ⟨fun n => match n with | 125 => 163 | 128 => 178 | 129 => 179 | 189 => 137 | 215 => 185 | 216 => 175 | 257 => 162 | 294 => 169 | 295 => 170 | 296 => 171 | 297 => 172 | 298 => 173 | 299 => 174 | 300 => 176 | 301 => 177 | 328 => 180 | 329 => 181 | 330 => 182 | 331 => 183 | 332 => 184 | 343 => 186 | n => n, fun n => match n with | 0 => 0 | 3 => 3 | 4 => 4 | 5 => 5 | 9 => 9 | 28 => 50 | 46 => 227 | 51 => 239 | 53 => 241 | 131 => 137 | 182 => 232 | 183 => 233 | 218 => 244 | 222 => 248 | 228 => 250 | 229 => 144 | n => n, fun n => n⟩
theorem YK : Go.Proofs.Lays.n189 Tryz.prog ABG where
 mixed := mixed
 f125 := by exact Tryz.func163
 f128 := by exact Tryz.func178
 f129 := by exact Tryz.func179
 f189 := by exact Tryz.func137
 f215 := by exact Tryz.func185
 f216 := by exact Tryz.func175
 f257 := by exact Tryz.func162
 f294 := by exact Tryz.func169
 f295 := by exact Tryz.func170
 f296 := by exact Tryz.func171
 f297 := by exact Tryz.func172
 f298 := by exact Tryz.func173
 f299 := by exact Tryz.func174
 f300 := by exact Tryz.func176
 f301 := by exact Tryz.func177
 f328 := by exact Tryz.func180
 f329 := by exact Tryz.func181
 f330 := by exact Tryz.func182
 f331 := by exact Tryz.func183
 f332 := by exact Tryz.func184
 f343 := by exact Tryz.func186
 t0 := Tryz.underlying0
 a0 := Tryz.isAgg0
 z0 := Tryz.sizeOf0
 v0 := Tryz.zeroValue0
 t3 := Tryz.underlying3
 a3 := Tryz.isAgg3
 z3 := Tryz.sizeOf3
 v3 := Tryz.zeroValue3
 t4 := Tryz.underlying4
 a4 := Tryz.isAgg4
 z4 := Tryz.sizeOf4
 v4 := Tryz.zeroValue4
 t5 := Tryz.underlying5
 a5 := Tryz.isAgg5
 z5 := Tryz.sizeOf5
 v5 := Tryz.zeroValue5
 t9 := Tryz.underlying9
 a9 := Tryz.isAgg9
 z9 := Tryz.sizeOf9
 v9 := Tryz.zeroValue9
 t28 := Tryz.underlying50
 a28 := Tryz.isAgg50
 z28 := Tryz.sizeOf50
 v28 := Tryz.zeroValue50
 t46 := Tryz.underlying227
 a46 := Tryz.isAgg227
 z46 := Tryz.sizeOf227
 v46 := Tryz.zeroValue227
 t51 := Tryz.underlying239
 a51 := Tryz.isAgg239
 z51 := Tryz.sizeOf239
 v51 := Tryz.zeroValue239
 t53 := Tryz.underlying241
 a53 := Tryz.isAgg241
 z53 := Tryz.sizeOf241
 v53 := Tryz.zeroValue241
 t131 := Tryz.underlying137
 a131 := Tryz.isAgg137
 z131 := Tryz.sizeOf137
 v131 := Tryz.zeroValue137
 t182 := Tryz.underlying232
 a182 := Tryz.isAgg232
 z182 := Tryz.sizeOf232
 v182 := Tryz.zeroValue232
 t183 := Tryz.underlying233
 a183 := Tryz.isAgg233
 z183 := Tryz.sizeOf233
 v183 := Tryz.zeroValue233
 t218 := Tryz.underlying244
 a218 := Tryz.isAgg244
 z218 := Tryz.sizeOf244
 v218 := Tryz.zeroValue244
 t222 := Tryz.underlying248
 a222 := Tryz.isAgg248
 z222 := Tryz.sizeOf248
 v222 := Tryz.zeroValue248
 t228 := Tryz.underlying250
 a228 := Tryz.isAgg250
 z228 := Tryz.sizeOf250
 v228 := Tryz.zeroValue250
 t229 := Tryz.underlying144
 a229 := Tryz.isAgg144
 z229 := Tryz.sizeOf144
 v229 := Tryz.zeroValue144
def ABH : Go.Shelf.Ren := ⟨fun n => match n with | 20 => 138 | n => n, fun n => match n with | 0 => 0 | 3 => 3 | 4 => 4 | 22 => 50 | n => n, fun n => n⟩
theorem ABF : Go.Proofs.Lays2.n20 Tryz.prog ABH where
 mixed := mixed
 f20 := by exact Tryz.func138
 t0 := Tryz.underlying0
 a0 := Tryz.isAgg0
 z0 := Tryz.sizeOf0
 v0 := Tryz.zeroValue0
 t3 := Tryz.underlying3
 a3 := Tryz.isAgg3
 z3 := Tryz.sizeOf3
 v3 := Tryz.zeroValue3
 t4 := Tryz.underlying4
 a4 := Tryz.isAgg4
 z4 := Tryz.sizeOf4
 v4 := Tryz.zeroValue4
 t22 := Tryz.underlying50
 a22 := Tryz.isAgg50
 z22 := Tryz.sizeOf50
 v22 := Tryz.zeroValue50
 i3 := by kernel_rfl
end Go.E
/- Plain functions, and walks in step with them. Written by a program (gen.py). No condition. -/
set_option maxRecDepth 100000
set_option maxHeartbeats 1000000
namespace Go.E
open Go Go.RowKit Go.Proofs
noncomputable def HA (a : Int) (b : Int) (c : Int) (d : Int) : Option DF :=
 some (⟨(⟨a, b⟩ : AI), (⟨c, d⟩ : AI)⟩ : DF)
theorem KW (a : Int) (b : Int) (c : Int) (d : Int) (r : DF) (h : HA a b c d = some r) : Az Tryz.prog 63 [.int .i64 a, .int .i64 b, .int .i64 c, .int .i64 d] (· = .agg (C0 r)) := by
 refine fn AA Tryz.func63 Z Z 16 Z [.cell 8 125] Z [(0, .p (.int .i64 a)), (1, .p (.int .i64 b)), (2, .p (.int .i64 c)), (3, .p (.int .i64 d))] Z Z fun A hA => ?_
 unfold HA at h
 refine rs AA <| rl Z <| rs AA <| rl Z <| AF ?_
 cases h
 exact er Z Le.rfl
noncomputable def Nz : Option AK :=
 (HA 0 0 1 0).bind fun a => (HA 1 1 2 0).bind fun b => (HA 2 1 3 0).bind fun c => (HA 3 1 5 0).bind fun d => (HA 2 2 4 0).bind fun e => some (⟨[(⟨(⟨#[87]⟩ : ByteArray), 4, 0⟩ : C1), (⟨(⟨#[65]⟩ : ByteArray), 1, 20⟩ : C1), (⟨(⟨#[80]⟩ : ByteArray), 2, 10⟩ : C1), (⟨(⟨#[66]⟩ : ByteArray), 1, 20⟩ : C1), (⟨(⟨#[67]⟩ : ByteArray), 1, 30⟩ : C1), (⟨(⟨#[69]⟩ : ByteArray), 4, 0⟩ : C1)], [a, b, c, d, e], [(⟨(⟨#[119]⟩ : ByteArray), (⟨0, 0⟩ : AI), false⟩ : Bw), (⟨(⟨#[97]⟩ : ByteArray), (⟨1, 1⟩ : AI), false⟩ : Bw), (⟨(⟨#[101]⟩ : ByteArray), (⟨5, 0⟩ : AI), false⟩ : Bw), (⟨(⟨#[98]⟩ : ByteArray), (⟨3, 0⟩ : AI), false⟩ : Bw), (⟨(⟨#[99]⟩ : ByteArray), (⟨4, 0⟩ : AI), false⟩ : Bw)], [], 10, 5, 15, 2, false⟩ : AK)
theorem XE (r : AK) (h : Nz = some r) : Az Tryz.prog 32 [] (· = .agg (AV r)) := by
 refine fn AA Tryz.func32 Z Z 31 Z [.cell 0 27] Z [] Z Z fun A hA => ?_
 unfold Nz at h
 refine rs AA <| rl Z <| rs AA <| rl Z <| rs AA <| rl Z <| rs AA <| bq h fun l a f => sx Z (AM (KW _ _ _ _ _ a) (.inl Z) Z Z Z <| bq f fun m b g => sx Z (AM (KW _ _ _ _ _ b) (.inl Z) Z Z Z <| bq g fun n c i => sx Z (AM (KW _ _ _ _ _ c) (.inl Z) Z Z Z <| bq i fun o d j => sx Z (AM (KW _ _ _ _ _ d) (.inl Z) Z Z Z <| bq j fun q e k => sx Z (AM (KW _ _ _ _ _ e) (.inl Z) Z Z Z <| rl Z <| rs AA <| rl Z <| rs AA <| rl Z <| AF ?_)))))
 cases k
 exact er (I5 Z (.agg (.cons (.own (enc := CC) ([(⟨(⟨#[87]⟩ : ByteArray), 4, 0⟩ : C1), (⟨(⟨#[65]⟩ : ByteArray), 1, 20⟩ : C1), (⟨(⟨#[80]⟩ : ByteArray), 2, 10⟩ : C1), (⟨(⟨#[66]⟩ : ByteArray), 1, 20⟩ : C1), (⟨(⟨#[67]⟩ : ByteArray), 1, 30⟩ : C1), (⟨(⟨#[69]⟩ : ByteArray), 4, 0⟩ : C1)] : List C1) Z Z) (.cons (.own (enc := C0) ([l, m, n, o, q] : List DF) Z Z) (.cons (.own (enc := BW) ([(⟨(⟨#[119]⟩ : ByteArray), (⟨0, 0⟩ : AI), false⟩ : Bw), (⟨(⟨#[97]⟩ : ByteArray), (⟨1, 1⟩ : AI), false⟩ : Bw), (⟨(⟨#[101]⟩ : ByteArray), (⟨5, 0⟩ : AI), false⟩ : Bw), (⟨(⟨#[98]⟩ : ByteArray), (⟨3, 0⟩ : AI), false⟩ : Bw), (⟨(⟨#[99]⟩ : ByteArray), (⟨4, 0⟩ : AI), false⟩ : Bw)] : List Bw) Z Z) (.cons (.p _) (.cons (.p _) (.cons (.p _) (.cons (.p _) (.cons (.p _) (.cons (.p _) .nil))))))))))) (Le.agg' (.cons Le.rfl (.cons Le.rfl (.cons Le.rfl (.cons (Le.nil _) (.cons Le.rfl (.cons Le.rfl (.cons Le.rfl (.cons Le.rfl (.cons Le.rfl .nil))))))))))
noncomputable def IB (b : AK) (a : Int) : Option (Int ⊕ Bool) :=
 bif decide (a < (b.signals.length : Int)) then (AY b.signals a).bind fun c => bif decide (100 < (c.name.size : Int)) then some (.inr false) else some (.inl (AN (a + 1))) else some (.inr true)
noncomputable def IC (b : AK) (a : Int) : Option (Int ⊕ Bool) :=
 bif decide (a < (b.elems.length : Int)) then (AY b.elems a).bind fun c => bif decide (100 < (c.name.size : Int)) then some (.inr false) else some (.inl (AN (a + 1))) else (AQ (IB b) 0).map .inr
noncomputable def J2 (b : AK) (a : Int) : Option (Int ⊕ Bool) :=
 bif decide (a < (b.lines.length : Int)) then (((AY b.lines a).bind fun d => bif decide (60 < (d.elems.length : Int)) then some true else (AY b.lines a).bind fun e => some (decide (100 < (e.name.size : Int))) : Option (Bool))).bind fun (c : Bool) => bif c then some (.inr false) else some (.inl (AN (a + 1))) else (AQ (IC b) 0).map .inr
noncomputable def Lj (a : AK) : Option Bool :=
 ((bif decide (60 < (a.elems.length : Int)) then some true else bif decide (120 < (a.joins.length : Int)) then some true else bif decide (60 < (a.signals.length : Int)) then some true else some (decide (20 < (a.lines.length : Int))) : Option (Bool))).bind fun (b : Bool) => bif b then some false else AQ (J2 a) 0
theorem ZO (b : AK) (r : Bool) (h : Lj b = some r) : Az Tryz.prog 64 [.agg (AV b)] (· = .bool r) := by
 refine fn AA Tryz.func64 Z Z 83 Z [.tmp 2] Z [(0, .p (.agg (AV b)))] Z Z fun A hA => ?_
 unfold Lj at h
 refine rs AA <| rl Z <| AB <| jb (fun d : Bool => ⟨83, [(1, .lpb 0 0), (27, lb d)], [(0, bx (AV b))], 1⟩) h (fun d u => ?_) (fun d am => ?_)
 .refine rg AA <| rn 2 Z <| sx Z (Ae Z Z <| rn 2 Z <| gs 10 u Z Z Z (fun v => ?_) (fun ac => ?_))
  .exact rl Z <| AL v (wf hA [(0, 0)] Z Z Z)
  refine rn 2 Z <| sx Z (Ae Z Z <| rn 3 Z <| gs 16 ac Z Z Z (fun ai => ?_) (fun aj => ?_))
  .exact rl Z <| AL ai (wf hA [(0, 0)] Z Z Z)
  refine rn 2 Z <| sx Z (Ae Z Z <| rn 3 Z <| gs 22 aj Z Z Z (fun ak => ?_) (fun al => ?_))
  .exact rl Z <| AL ak (wf hA [(0, 0)] Z Z Z)
  exact rn 2 Z <| sx Z (Ae Z Z <| rl Z <| AL al (wf hA [(0, 0)] Z Z Z))
 refine cd Z am (fun an => ?_) (fun ao => ?_)
 .refine rs AA <| rl Z <| AF <| AG ?_
  cases an
  exact er Z Le.rfl
 refine AE <| AC <| AB <| rs AA <| rl Z <| AH ?_
 apply lp (a := r) (fun c : Int => ⟨83, [(1, .lpb 0 0), (3, li c)], [(0, bx (AV b))], 1⟩) ao
 . exact wf hA [(0, 0)] Z Z Z
 intro c a9 f
 unfold J2 at f
 refine AB <| rs AA <| rn 3 Z <| sx Z (Ae Z Z <| rl Z <| cd Z f (fun t => ?_) (fun ag => ?_))
 .refine AE <| AC <| AB <| AH <| jb (fun e : Bool => ⟨83, [(1, .lpb 0 0), (3, li c), (52, lb e)], [(0, bx (AV b))], 1⟩) t (fun e w => ?_) (fun e ab => ?_)
  .refine rg AA <| rn 3 Z <| bq w fun bc n x => sx Z (Aj n Z Z Z <| rn 2 Z <| sx Z (Ae Z Z <| rn 2 Z <| gs 43 x Z Z Z (fun y => ?_) (fun z => ?_)))
   .exact rl Z <| AL y (wf hA [(0, 0)] Z Z Z)
   exact rn 3 Z <| bq z fun be o aa => sx Z (Aj o Z Z Z <| rl Z <| AL aa (wf hA [(0, 0)] Z Z Z))
  refine cd Z ab (fun ad => ?_) (fun af => ?_)
  .refine rs AA <| rl Z <| AF <| AO <| AG <| A3 ad fun a5 ae => AO <| AG ?_
   cases ae
   exact er Z Le.rfl
  exact AE <| Ac <| AC <| rg AA <| rl Z <| Ar af (wf hA [(0, 0)] Z Z Z)
 refine AU <| AX <| CF ag fun l ah => An <| AC <| AB <| rs AA <| rl Z <| AH ?_
 apply lp (a := l) (fun j : Int => ⟨83, [(1, .lpb 0 0), (4, li j)], [(0, bx (AV b))], 1⟩) ah
 . exact wf hA [(0, 0)] Z Z Z
 intro j ba g
 unfold IC at g
 refine AB <| rs AA <| rn 3 Z <| sx Z (Ae Z Z <| rl Z <| cd Z g (fun ap => ?_) (fun aw => ?_))
 .refine AE <| AC <| AB <| AH <| rs AA <| rn 3 Z <| bq ap fun bf q aq => sx Z (Aj q Z Z Z <| rl Z <| cd Z aq (fun ar => ?_) (fun av => ?_))
  .refine rs AA <| rl Z <| AF <| AO <| AG <| A3 ar fun a6 au => AO <| AG ?_
   cases au
   exact er Z Le.rfl
  exact AE <| Ac <| AC <| rg AA <| rl Z <| Ar av (wf hA [(0, 0)] Z Z Z)
 refine AU <| AX <| CF aw fun m ax => An <| AC <| AB <| rs AA <| rl Z <| AH ?_
 apply lp (a := m) (fun k : Int => ⟨83, [(1, .lpb 0 0), (5, li k)], [(0, bx (AV b))], 1⟩) ax
 . exact wf hA [(0, 0)] Z Z Z
 intro k bb i
 unfold IB at i
 refine AB <| rs AA <| rn 3 Z <| sx Z (Ae Z Z <| rl Z <| cd Z i (fun ay => ?_) (fun a3 => ?_))
 .refine AE <| AC <| AB <| AH <| rs AA <| rn 3 Z <| bq ay fun bg s az => sx Z (Aj s Z Z Z <| rl Z <| cd Z az (fun a0 => ?_) (fun a2 => ?_))
  .refine rs AA <| rl Z <| AF <| AO <| AG <| A3 a0 fun a7 a1 => AO <| AG ?_
   cases a1
   exact er Z Le.rfl
  exact AE <| Ac <| AC <| rg AA <| rl Z <| Ar a2 (wf hA [(0, 0)] Z Z Z)
 refine AU <| AX <| BK a3 fun a8 a4 => An <| AC <| rs AA <| rl Z <| AF ?_
 cases a4
 exact er Z Le.rfl
noncomputable def Eh (b : AK) (d : (Int × (List ByteArray))) (c : (Int × (List ByteArray))) (a : Int × (List ByteArray)) : Option ((Int × (List ByteArray)) ⊕ ((List ByteArray) × (List ByteArray) × (List ByteArray))) :=
 bif decide (a.1 < (b.lines.length : Int)) then (AY b.lines a.1).bind fun e => (Bt a.2 [e.name]).bind fun f => some (.inl (AN (a.1 + 1), f)) else some (.inr (d.2, c.2, a.2))
noncomputable def Ei (b : AK) (c : (Int × (List ByteArray))) (a : Int × (List ByteArray)) : Option ((Int × (List ByteArray)) ⊕ ((List ByteArray) × (List ByteArray) × (List ByteArray))) :=
 bif decide (a.1 < (b.signals.length : Int)) then (AY b.signals a.1).bind fun d => (Bt a.2 [d.name]).bind fun e => some (.inl (AN (a.1 + 1), e)) else (AQ (Eh b c a) (0, ([] : List ByteArray))).map .inr
noncomputable def GG (b : AK) (a : Int × (List ByteArray)) : Option ((Int × (List ByteArray)) ⊕ ((List ByteArray) × (List ByteArray) × (List ByteArray))) :=
 bif decide (a.1 < (b.elems.length : Int)) then (AY b.elems a.1).bind fun c => (Bt a.2 [c.name]).bind fun d => some (.inl (AN (a.1 + 1), d)) else (AQ (Ei b a) (0, ([] : List ByteArray))).map .inr
noncomputable def JA (a : AK) : Option ((List ByteArray) × (List ByteArray) × (List ByteArray)) :=
 AQ (GG a) (0, ([] : List ByteArray))
theorem XF (e : AK) (r : ((List ByteArray) × (List ByteArray) × (List ByteArray))) (h : JA e = some r) : Az Tryz.prog 95 [.agg (AV e)] (· = .tup [.slice 1 (r.1.map FU), .slice 1 (r.2.1.map FU), .slice 1 (r.2.2.map FU)]) := by
 refine fn AA Tryz.func95 Z Z 62 Z [.tmp 2, .tmp 3, .tmp 4] Z [(0, .p (.agg (AV e)))] Z Z fun A hA => ?_
 unfold JA at h
 refine rs AA <| rl Z <| rs AA <| rl Z <| AB <| rs AA <| rl Z <| AH ?_
 apply lp (a := r) (fun b : (Int × (List ByteArray)) => ⟨62, [(1, .lpb 0 0), (5, .lsl 1 1 0 b.2.length), (6, .p (.nils)), (7, .p (.nils)), (8, li b.1)], [(0, bx (AV e)), (1, .row 9 1 (b.2.map FU))], 2⟩) h
 . exact A9.trans (Cl 5 9 1 Z) (wf hA [(0, 0), (1, 1)] Z Z Z)
 intro b aq i
 unfold GG at i
 refine AB <| rs AA <| rn 3 Z <| sx Z (Ae Z Z <| rl Z <| cd Z i (fun aj => ?_) (fun x => ?_))
 .exact AE <| AC <| AB <| AH <| rg AA <| rn 4 Z <| bq aj fun ak n v => sx Z (Aj n Z Z Z <| rn 3 Z <| bq v fun ar o w => sx Z (BU (enc := FU) (l := b.2) (m := [ak.name]) o (fun _ => ⟨Z, Z⟩) Z Z Z Z Z Z <| rl Z <| Ac <| AC <| rg AA <| rl Z <| Ar w (wf hA [(0, 0), (1, 3)] Z Z Z)))
 refine AU <| AX <| CF x fun j y => An <| AC <| AB <| rs AA <| rl Z <| AH ?_
 apply lp (a := j) (fun c : (Int × (List ByteArray)) => ⟨62, [(1, .lpb 0 0), (5, .lsl 1 1 0 b.2.length), (6, .lsl 2 1 0 c.2.length), (7, .p (.nils)), (9, li c.1)], [(0, bx (AV e)), (1, .row 9 1 (b.2.map FU)), (2, .row 9 1 (c.2.map FU))], 3⟩) y
 . exact A9.trans (Cl 6 9 1 Z) (wf hA (gi 3 []) Z Z Z)
 intro c ao f
 unfold Ei at f
 refine AB <| rs AA <| rn 3 Z <| sx Z (Ae Z Z <| rl Z <| cd Z f (fun z => ?_) (fun ac => ?_))
 .exact AE <| AC <| AB <| AH <| rg AA <| rn 4 Z <| bq z fun al q aa => sx Z (Aj q Z Z Z <| rn 3 Z <| bq aa fun au s ab => sx Z (BU (enc := FU) (l := c.2) (m := [al.name]) s (fun _ => ⟨Z, Z⟩) Z Z Z Z Z Z <| rl Z <| Ac <| AC <| rg AA <| rl Z <| Ar ab (wf hA [(0, 0), (1, 1), (2, 4)] Z Z Z)))
 refine AU <| AX <| CF ac fun k ad => An <| AC <| AB <| rs AA <| rl Z <| AH ?_
 apply lp (a := k) (fun d : (Int × (List ByteArray)) => ⟨62, [(1, .lpb 0 0), (5, .lsl 1 1 0 b.2.length), (6, .lsl 2 1 0 c.2.length), (7, .lsl 3 1 0 d.2.length), (10, li d.1)], [(0, bx (AV e)), (1, .row 9 1 (b.2.map FU)), (2, .row 9 1 (c.2.map FU)), (3, .row 9 1 (d.2.map FU))], 4⟩) ad
 . exact A9.trans (Cl 7 9 1 Z) (wf hA (gi 4 []) Z Z Z)
 intro d ap g
 unfold Eh at g
 refine AB <| rs AA <| rn 3 Z <| sx Z (Ae Z Z <| rl Z <| cd Z g (fun ae => ?_) (fun ah => ?_))
 .exact AE <| AC <| AB <| AH <| rg AA <| rn 4 Z <| bq ae fun am t af => sx Z (Aj t Z Z Z <| rn 3 Z <| bq af fun av u ag => sx Z (BU (enc := FU) (l := d.2) (m := [am.name]) u (fun _ => ⟨Z, Z⟩) Z Z Z Z Z Z <| rl Z <| Ac <| AC <| rg AA <| rl Z <| Ar ag (wf hA (gi 3 [(3, 5)]) Z Z Z)))
 refine AU <| AX <| BK ah fun an ai => An <| AC <| rs AA <| rl Z <| AF ?_
 cases ai
 exact er (UR Z (.cons (.one (.own (enc := FU) b.2 Z Z)) (.cons (.one (.own (enc := FU) c.2 Z Z)) (.cons (.one (.own (enc := FU) d.2 Z Z)) .nil)))) Le.rfl
noncomputable def Cx (a : Int) (c : Int) (d : Int) : Option Bool :=
 ((bif decide (c <= a) then some (decide (a <= d)) else some false : Option (Bool))).bind fun (b : Bool) => some b
theorem Ga (b : Int) (c : Int) (d : Int) (r : Bool) (h : Cx b c d = some r) : Az Tryz.prog 139 [.int .i64 b, .int .i64 c, .int .i64 d] (· = .bool r) := by
 refine fn AA Tryz.func139 Z Z 15 Z [.tmp 6] Z [(0, .p (.int .i64 b)), (1, .p (.int .i64 c)), (2, .p (.int .i64 d))] Z Z fun A hA => ?_
 unfold Cx at h
 refine rs AA <| rl Z <| jb (fun a : Bool => ⟨15, [(6, lb a)], [], 0⟩) h (fun a e => ?_) (fun a i => ?_)
 .refine rg AA <| rn 4 Z <| gs 10 e Z Z Z (fun f => ?_) (fun g => ?_)
  .exact rl Z <| AL f (wf hA [] Z Z Z)
  exact rl Z <| AL g (wf hA [] Z Z Z)
 refine AF ?_
 have hr := Option.some.inj i; subst hr
 exact er Z Le.rfl
noncomputable def Df (c : ByteArray) (b : Int) : Option (Int ⊕ Bool) :=
 bif decide (b < (c.size : Int)) then (Kn c b).bind fun a => ((bif decide (97 <= (a.toNat : Int)) then bif decide ((a.toNat : Int) <= 122) then some true else bif decide (65 <= (a.toNat : Int)) then some (decide ((a.toNat : Int) <= 90)) else some false else bif decide (65 <= (a.toNat : Int)) then some (decide ((a.toNat : Int) <= 90)) else some false : Option (Bool))).bind fun (d : Bool) => ((bif (!d) then bif (b == 0) then some true else bif decide ((a.toNat : Int) < 48) then some true else some (decide (57 < (a.toNat : Int))) else some false : Option (Bool))).bind fun (e : Bool) => bif e then some (.inr false) else some (.inl (AN (b + 1))) else (((bif decide (1 <= (c.size : Int)) then some (decide ((c.size : Int) <= 8)) else some false : Option (Bool))).bind fun (f : Bool) => some f).map .inr
noncomputable def Cn (a : ByteArray) : Option Bool :=
 AQ (Df a) 0
theorem KX (b : ByteArray) (r : Bool) (h : Cn b = some r) : Az Tryz.prog 61 [.str b] (· = .bool r) := by
 refine fn AA Tryz.func61 Z Z 51 Z [.tmp 2] Z [(0, .p (.str b))] Z Z fun A hA => ?_
 unfold Cn at h
 refine rs AA <| rl Z <| AB <| rs AA <| rl Z <| AH ?_
 apply lp (a := r) (fun c : Int => ⟨51, [(0, .p (.str b)), (3, li c)], [], 0⟩) h
 . exact wf hA [] Z Z Z
 intro c ar g
 unfold Df at g
 refine AB <| rs AA <| rl Z <| cd Z g (fun j => ?_) (fun ai => ?_)
 .refine AE <| AC <| AB <| AH <| rs AA <| rn 2 Z <| bq j fun ao i k => sx Z (O7 i Z Z Z <| rl Z <| jb (fun d : Bool => ⟨51, [(0, .p (.str b)), (3, li c), (4, .p (.int .u8 (ao.toNat : Int))), (5, lb d)], [], 0⟩) k (fun d l => ?_) (fun d w => ?_))
  .refine rg AA <| rn 3 Z <| gs 17 l Z Z Z (fun m => ?_) (fun t => ?_)
   .refine rn 4 Z <| gs 21 m Z Z Z (fun n => ?_) (fun o => ?_)
    .exact rl Z <| AL n (wf hA [] Z Z Z)
    refine rn 3 Z <| gs 24 o Z Z Z (fun q => ?_) (fun s => ?_)
    .exact rl Z <| AL q (wf hA [] Z Z Z)
    exact rl Z <| AL s (wf hA [] Z Z Z)
   refine rn 7 Z <| gs 24 t Z Z Z (fun u => ?_) (fun v => ?_)
   .exact rl Z <| AL u (wf hA [] Z Z Z)
   exact rl Z <| AL v (wf hA [] Z Z Z)
  refine jb (fun e : Bool => ⟨51, [(0, .p (.str b)), (3, li c), (42, lb e)], [], 0⟩) w (fun e x => ?_) (fun e ae => ?_)
  .refine rg AA <| rn 3 Z <| gs 31 x Z Z Z (fun y => ?_) (fun ad => ?_)
   .refine rn 3 Z <| gs 34 y Z Z Z (fun z => ?_) (fun aa => ?_)
    .exact rl Z <| AL z (wf hA [] Z Z Z)
    refine rn 4 Z <| gs 38 aa Z Z Z (fun ab => ?_) (fun ac => ?_)
    .exact rl Z <| AL ab (wf hA [] Z Z Z)
    exact rl Z <| AL ac (wf hA [] Z Z Z)
   exact rl Z <| AL ad (wf hA [] Z Z Z)
  refine cd Z ae (fun af => ?_) (fun ah => ?_)
  .refine rs AA <| rl Z <| AF <| AO <| AG <| A3 af fun ap ag => AO <| AG ?_
   cases ag
   exact er Z Le.rfl
  exact AE <| Ac <| AC <| rg AA <| rl Z <| Ar ah (wf hA [] Z Z Z)
 refine AU <| AX <| CF ai fun aq aj => An <| AC <| jb (fun f : Bool => ⟨51, [(2, lb f)], [], 0⟩) aj (fun f ak => ?_) (fun f an => ?_)
 .refine rg AA <| rn 4 Z <| gs 46 ak Z Z Z (fun al => ?_) (fun am => ?_)
  .exact rl Z <| AL al (wf hA [] Z Z Z)
  exact rl Z <| AL am (wf hA [] Z Z Z)
 refine AF ?_
 have hr := Option.some.inj an; subst hr
 exact er Z Le.rfl
noncomputable def Ep (a : Int) : Option Int :=
 bif (a == 1) then some 2 else bif (a == 2) then some 3 else bif (a == 3) then some 4 else bif (a == 4) then some 1 else some 0
theorem S2 (a : Int) (r : Int) (h : Ep a = some r) : Az Tryz.prog 94 [.int .i64 a] (· = .int .i64 r) := by
 refine fn AA Tryz.func94 Z Z 12 Z [.tmp 2] Z [(0, .p (.int .i64 a))] Z Z fun A hA => ?_
 unfold Ep at h
 refine rs AA <| rl Z <| AB <| rs AA <| rl Z <| AH <| rs AA <| rl Z <| cd Z h (fun j => ?_) (fun b => ?_)
 .refine rs AA <| rl Z <| AF <| AO <| AG ?_
  cases j
  exact er Z Le.rfl
 refine rs AA <| rl Z <| cd Z b (fun c => ?_) (fun d => ?_)
 .refine rs AA <| rl Z <| AF <| AO <| AG ?_
  cases c
  exact er Z Le.rfl
 refine rs AA <| rl Z <| cd Z d (fun e => ?_) (fun f => ?_)
 .refine rs AA <| rl Z <| AF <| AO <| AG ?_
  cases e
  exact er Z Le.rfl
 refine rs AA <| rl Z <| cd Z f (fun g => ?_) (fun i => ?_)
 .refine rs AA <| rl Z <| AF <| AO <| AG ?_
  cases g
  exact er Z Le.rfl
 refine AE <| Ac <| AC <| rs AA <| rl Z <| AF ?_
 cases i
 exact er Z Le.rfl
noncomputable def HB (b : AK) (a : Int) : Option (Int ⊕ Bool) :=
 bif decide (a < (b.lines.length : Int)) then (AY b.lines a).bind fun c => (Cn c.name).bind fun d => bif (!d) then some (.inr false) else some (.inl (AN (a + 1))) else some (.inr true)
noncomputable def HD (b : AK) (a : Int) : Option (Int ⊕ Bool) :=
 bif decide (a < (b.signals.length : Int)) then (AY b.signals a).bind fun c => (Cn c.name).bind fun d => bif (!d) then some (.inr false) else some (.inl (AN (a + 1))) else (AQ (HB b) 0).map .inr
noncomputable def HE (c : AK) (b : Int) : Option (Int ⊕ Bool) :=
 bif decide (b < (c.elems.length : Int)) then (AY c.elems b).bind fun a => (((Cn a.name).bind fun e => bif (!e) then some true else (Ep a.kind).bind fun f => bif (f == 0) then some true else bif (a.kind == 4) then bif (a.length != 0) then some true else bif (a.kind != 4) then (Cx a.length 1 4000).bind fun g => some (!g) else some false else bif (a.kind != 4) then (Cx a.length 1 4000).bind fun h => some (!h) else some false : Option (Bool))).bind fun (d : Bool) => bif d then some (.inr false) else some (.inl (AN (b + 1))) else (AQ (HD c) 0).map .inr
noncomputable def KY (a : AK) : Option Bool :=
 (((Cx a.top 1 60).bind fun c => bif (!c) then some true else (Cx a.brake 1 10).bind fun d => bif (!d) then some true else (Cx a.margin 1 4000).bind fun e => bif (!e) then some true else (Cx a.throw 1 20).bind fun f => bif (!f) then some true else some ((a.elems.length : Int) == 0) : Option (Bool))).bind fun (b : Bool) => bif b then some false else AQ (HE a) 0
theorem YI (b : AK) (r : Bool) (h : KY b = some r) : Az Tryz.prog 96 [.agg (AV b)] (· = .bool r) := by
 refine fn AA Tryz.func96 Z Z 108 Z [.tmp 2] Z [(0, .p (.agg (AV b)))] Z Z fun A hA => ?_
 unfold KY at h
 refine rs AA <| rl Z <| AB <| jb (fun d : Bool => ⟨108, [(1, .lpb 0 0), (34, lb d)], [(0, bx (AV b))], 1⟩) h (fun d aj => ?_) (fun d bo => ?_)
 .refine rg AA <| rn 2 Z <| bq aj fun cc q ak => sx Z (AM (Ga _ _ _ _ q) (.inl Z) Z Z Z <| rn 2 Z <| gs 11 ak Z Z Z (fun al => ?_) (fun am => ?_))
  .exact rl Z <| AL al (wf hA [(0, 0)] Z Z Z)
  refine rn 2 Z <| bq am fun ce s ao => sx Z (AM (Ga _ _ _ _ s) (.inl Z) Z Z Z <| rn 3 Z <| gs 17 ao Z Z Z (fun ap => ?_) (fun aq => ?_))
  .exact rl Z <| AL ap (wf hA [(0, 0)] Z Z Z)
  refine rn 2 Z <| bq aq fun cf t ar => sx Z (AM (Ga _ _ _ _ t) (.inl Z) Z Z Z <| rn 3 Z <| gs 23 ar Z Z Z (fun av => ?_) (fun aw => ?_))
  .exact rl Z <| AL av (wf hA [(0, 0)] Z Z Z)
  refine rn 2 Z <| bq aw fun cj x bc => sx Z (AM (Ga _ _ _ _ x) (.inl Z) Z Z Z <| rn 3 Z <| gs 29 bc Z Z Z (fun bl => ?_) (fun bn => ?_))
  .exact rl Z <| AL bl (wf hA [(0, 0)] Z Z Z)
  exact rn 2 Z <| sx Z (Ae Z Z <| rl Z <| AL bn (wf hA [(0, 0)] Z Z Z))
 refine cd Z bo (fun bp => ?_) (fun br => ?_)
 .refine rs AA <| rl Z <| AF <| AG ?_
  cases bp
  exact er Z Le.rfl
 refine AE <| AC <| AB <| rs AA <| rl Z <| AH ?_
 apply lp (a := r) (fun c : Int => ⟨108, [(1, .lpb 0 0), (3, li c)], [(0, bx (AV b))], 1⟩) br
 . exact wf hA [(0, 0)] Z Z Z
 intro c b7 f
 unfold HE at f
 refine AB <| rs AA <| rn 3 Z <| sx Z (Ae Z Z <| rl Z <| cd Z f (fun an => ?_) (fun bk => ?_))
 .refine AE <| AC <| AB <| AH <| rs AA <| rn 3 Z <| bq an fun cg u au => sx Z (Aj u Z Z Z <| rl Z <| jb (fun e : Bool => ⟨108, [(1, .lpb 0 0), (3, li c), (77, lb e)], [(0, bx (AV b))], 1⟩) au (fun e ax => ?_) (fun e bg => ?_))
  .refine rg AA <| rn 2 Z <| bq ax fun ch v ay => sx Z (AM (KX _ _ v) (.inl Z) Z Z Z <| rn 2 Z <| gs 51 ay Z Z Z (fun az => ?_) (fun a0 => ?_))
   .exact rl Z <| AL az (wf hA [(0, 0)] Z Z Z)
   refine rn 2 Z <| bq a0 fun ci w a1 => sx Z (AM (S2 _ _ w) (.inl Z) Z Z Z <| rn 3 Z <| gs 57 a1 Z Z Z (fun a2 => ?_) (fun a3 => ?_))
   .exact rl Z <| AL a2 (wf hA [(0, 0)] Z Z Z)
   refine rn 4 Z <| gs 61 a3 Z Z Z (fun a4 => ?_) (fun ba => ?_)
   .refine rn 6 Z <| gs 67 a4 Z Z Z (fun a5 => ?_) (fun a6 => ?_)
    .exact rl Z <| AL a5 (wf hA [(0, 0)] Z Z Z)
    refine rn 4 Z <| gs 71 a6 Z Z Z (fun a7 => ?_) (fun a9 => ?_)
    .exact rn 2 Z <| bq a7 fun ck y a8 => sx Z (AM (Ga _ _ _ _ y) (.inl Z) Z Z Z <| rl Z <| AL a8 (wf hA [(0, 0)] Z Z Z))
    exact rl Z <| AL a9 (wf hA [(0, 0)] Z Z Z)
   refine rn 10 Z <| gs 71 ba Z Z Z (fun bb => ?_) (fun bf => ?_)
   .exact rn 2 Z <| bq bb fun cl z be => sx Z (AM (Ga _ _ _ _ z) (.inl Z) Z Z Z <| rl Z <| AL be (wf hA [(0, 0)] Z Z Z))
   exact rl Z <| AL bf (wf hA [(0, 0)] Z Z Z)
  refine cd Z bg (fun bh => ?_) (fun bj => ?_)
  .refine rs AA <| rl Z <| AF <| AO <| AG <| A3 bh fun b5 bi => AO <| AG ?_
   cases bi
   exact er Z Le.rfl
  exact AE <| Ac <| AC <| rg AA <| rl Z <| Ar bj (wf hA [(0, 0)] Z Z Z)
 refine AU <| AX <| CF bk fun l bm => An <| AC <| AB <| rs AA <| rl Z <| AH ?_
 apply lp (a := l) (fun j : Int => ⟨108, [(1, .lpb 0 0), (5, li j)], [(0, bx (AV b))], 1⟩) bm
 . exact wf hA [(0, 0)] Z Z Z
 intro j b8 g
 unfold HD at g
 refine AB <| rs AA <| rn 3 Z <| sx Z (Ae Z Z <| rl Z <| cd Z g (fun bs => ?_) (fun b0 => ?_))
 .refine AE <| AC <| AB <| AH <| rs AA <| rn 3 Z <| bq bs fun cm aa bt => sx Z (Aj aa Z Z Z <| rn 2 Z <| bq bt fun cn ab bu => sx Z (AM (KX _ _ ab) (.inl Z) Z Z Z <| rl Z <| cd Z bu (fun bv => ?_) (fun bz => ?_)))
  .refine rs AA <| rl Z <| AF <| AO <| AG <| A3 bv fun b6 bw => AO <| AG ?_
   cases bw
   exact er Z Le.rfl
  exact AE <| Ac <| AC <| rg AA <| rl Z <| Ar bz (wf hA [(0, 0)] Z Z Z)
 refine AU <| AX <| CF b0 fun m b1 => An <| AC <| AB <| rs AA <| rl Z <| AH ?_
 apply lp (a := m) (fun k : Int => ⟨108, [(1, .lpb 0 0), (6, li k)], [(0, bx (AV b))], 1⟩) b1
 . exact wf hA [(0, 0)] Z Z Z
 intro k b9 i
 unfold HB at i
 refine AB <| rs AA <| rn 3 Z <| sx Z (Ae Z Z <| rl Z <| cd Z i (fun b2 => ?_) (fun ah => ?_))
 .refine AE <| AC <| AB <| AH <| rs AA <| rn 3 Z <| bq b2 fun ca n ac => sx Z (Aj n Z Z Z <| rn 2 Z <| bq ac fun cb o ad => sx Z (AM (KX _ _ o) (.inl Z) Z Z Z <| rl Z <| cd Z ad (fun ae => ?_) (fun ag => ?_)))
  .refine rs AA <| rl Z <| AF <| AO <| AG <| A3 ae fun b3 af => AO <| AG ?_
   cases af
   exact er Z Le.rfl
  exact AE <| Ac <| AC <| rg AA <| rl Z <| Ar ag (wf hA [(0, 0)] Z Z Z)
 refine AU <| AX <| BK ah fun b4 ai => An <| AC <| rs AA <| rl Z <| AF ?_
 cases ai
 exact er Z Le.rfl
noncomputable def GH (c : (List ByteArray)) (a : Int) (b : Int) : Option (Int ⊕ (Int ⊕ Bool)) :=
 bif decide (b < a) then (AY c a).bind fun d => (AY c b).bind fun e => bif (d.toList == e.toList) then some (.inr (.inr true)) else some (.inl (AN (b + 1))) else some (.inr (.inl (AN (a + 1))))
noncomputable def IZ (b : (List ByteArray)) (a : Int) : Option (Int ⊕ Bool) :=
 bif decide (a < (b.length : Int)) then AQ (GH b a) 0 else some (.inr false)
noncomputable def F0 (a : (List ByteArray)) : Option Bool :=
 AQ (IZ a) 0
theorem N0 (b : (List ByteArray)) (r : Bool) (h : F0 b = some r) : Az Tryz.prog 97 [.slice 1 (b.map FU)] (· = .bool r) := by
 refine fn AA Tryz.func97 Z Z 25 Z [.tmp 2] Z [(0, .p (.slice 1 (b.map FU)))] Z Z fun A hA => ?_
 unfold F0 at h
 refine rs AA <| rl Z <| AB <| rs AA <| rl Z <| AH ?_
 apply lp (a := r) (fun c : Int => ⟨25, [(0, ls 1 FU b), (3, li c)], [], 0⟩) h
 . exact wf hA [] Z Z Z
 intro c g d
 unfold IZ at d
 refine AB <| rs AA <| rn 2 Z <| sx Z (Ae Z Z <| rl Z <| cd Z d (fun k => ?_) (fun w => ?_))
 .refine AE <| AC <| AB <| AH <| rs AA <| rl Z <| AH ?_
  apply lp (a := g) (fun f : Int => ⟨25, [(0, ls 1 FU b), (3, li c), (4, li f)], [], 0⟩) k
  . exact wf hA [] Z Z Z
  intro f ac e
  unfold GH at e
  refine AB <| rs AA <| rl Z <| cd Z e (fun l => ?_) (fun u => ?_)
  .refine AE <| AC <| AB <| AH <| AB ?_
   refine B3 AA mixed [0, 1, 2, 3, 4, 5, 6, 7, 8] 9 (by kernel_rfl) Z Z Z ?_
   refine Av 2 Z <| bq l fun ad i m => Au Z (Am Z (Aj i Z Z Z <| Av 3 Z <| bq m fun ae j n => Au Z (Am Z (Aj j Z Z Z <| BN Z <| AC <| cd Z n (fun o => ?_) (fun t => ?_)))))
   .refine rs AA <| rl Z <| AF <| AO <| AG <| A3 o fun y q => AO <| AO <| AG <| A3 q fun z s => AO <| AG ?_
    cases s
    exact er Z Le.rfl
   exact AE <| Ac <| AC <| rg AA <| rl Z <| Ar t (wf hA [] Z Z Z)
  exact AU <| AX <| BK u fun aa v => An <| Ac <| AC <| rg AA <| rl Z <| Ar v (wf hA [] Z Z Z)
 refine AU <| AX <| BK w fun ab x => An <| AC <| rs AA <| rl Z <| AF ?_
 cases x
 exact er Z Le.rfl
end Go.E
/- Plain functions, and walks in step with them. Written by a program (gen.py). No condition. -/
set_option maxRecDepth 100000
set_option maxHeartbeats 1000000
namespace Go.E
open Go Go.RowKit Go.Proofs
noncomputable def Jk (b : AK) (a : AI) : Option Bool :=
 ((bif decide (0 <= a.elem) then bif decide (a.elem < (b.elems.length : Int)) then bif decide (0 <= a.fin) then (AY b.elems a.elem).bind fun d => (Ep d.kind).bind fun e => some (decide (a.fin < e)) else some false else some false else some false : Option (Bool))).bind fun (c : Bool) => some c
theorem Ud (b : AK) (c : AI) (r : Bool) (h : Jk b c = some r) : Az Tryz.prog 140 [.agg (AV b), .agg (AT c)] (· = .bool r) := by
 refine fn AA Tryz.func140 Z Z 34 Z [.tmp 4] Z [(0, .p (.agg (AV b))), (1, .p (.agg (AT c)))] Z Z fun A hA => ?_
 unfold Jk at h
 refine rs AA <| rl Z <| jb (fun a : Bool => ⟨34, [(4, lb a)], [], 0⟩) h (fun a f => ?_) (fun a q => ?_)
 .refine B3 AA mixed [0, 1, 2, 3, 4, 5, 6, 7, 8, 9, 10, 11, 12, 13, 14, 15, 16, 17, 18, 19, 20, 21, 22, 23, 24, 25, 26, 27, 28, 29] 30 (by kernel_rfl) Z Z Z ?_
  refine Av 4 Z <| FF 8 f Z Z Z (fun g => ?_) (fun o => ?_)
  .refine Av 4 Z <| Au Z (KT Z Z <| Av 3 Z <| FF 16 g Z Z Z (fun i => ?_) (fun n => ?_))
   .refine Av 5 Z <| FF 21 i Z Z Z (fun j => ?_) (fun m => ?_)
    .exact Av 6 Z <| bq j fun s d k => Au Z (Am Z (Aj d Z Z Z <| Av 2 Z <| bq k fun t e l => Au Z (A7 (S2 _ _ e) (.inl Z) Z Z Z <| BN Z <| AL l (wf hA [] Z Z Z))))
    exact BN Z <| AL m (wf hA [] Z Z Z)
   exact BN Z <| AL n (wf hA [] Z Z Z)
  exact BN Z <| AL o (wf hA [] Z Z Z)
 refine AF ?_
 have hr := Option.some.inj q; subst hr
 exact er Z Le.rfl
noncomputable def JH (d : AK) (e : AI) (c : Int) : Option (Int ⊕ (AI × Bool)) :=
 bif decide (c < (d.joins.length : Int)) then (AY d.joins c).bind fun f => bif (f.a == e) then (AY d.joins c).bind fun g => some (.inr (g.b, true)) else (AY d.joins c).bind fun h => bif (h.b == e) then (AY d.joins c).bind fun i => some (.inr (i.a, true)) else some (.inl (AN (c + 1))) else some (.inr ((⟨0, 0⟩ : AI), false))
noncomputable def Fp (a : AK) (b : AI) : Option (AI × Bool) :=
 AQ (JH a b) 0
theorem MF (d : AK) (c : AI) (r : (AI × Bool)) (h : Fp d c = some r) : Az Tryz.prog 71 [.agg (AV d), .agg (AT c)] (· = .tup [.agg (AT r.1), .bool r.2]) := by
 refine fn AA Tryz.func71 Z Z 43 Z [.cell 4 40, .tmp 5] Z [(0, .p (.agg (AV d))), (1, .p (.agg (AT c)))] Z Z fun A hA => ?_
 unfold Fp at h
 refine rs AA <| rl Z <| AB <| rs AA <| rl Z <| AH ?_
 apply lp (a := r) (fun f : Int => ⟨43, [(2, .lpb 0 0), (3, .lpb 1 0), (4, .lpb 2 0), (6, li f)], [(0, bx (AV d)), (1, .box [li c.elem, li c.fin]), (2, .box [li 0, li 0])], 3⟩) h
 . exact wf hA (gi 3 []) Z Z Z
 intro f af e
 unfold JH at e
 refine AB <| rs AA <| rn 3 Z <| sx Z (Ae Z Z <| rl Z <| cd Z e (fun l => ?_) (fun y => ?_))
 .refine AE <| AC <| AB <| AH <| AB <| AB ?_
  refine B3 AA mixed [0, 1, 2, 3, 4, 5, 6, 7] 8 (by kernel_rfl) Z Z Z ?_
  refine Av 3 Z <| bq l fun aa g m => Au Z (Am Z (Aj g Z Z Z <| Av 3 Z <| Au Z (PA (Jl aa.a c) Z Z Z Z Z <| BN Z <| AC <| cd Z m (fun n => ?_) (fun s => ?_))))
  .refine rs AA <| rn 3 Z <| bq n fun ag i o => sx Z (Aj i Z Z Z <| rl Z <| AF <| AG <| AO <| AG <| A3 o fun ac q => AO <| AG ?_)
   cases q
   exact er Z Le.rfl
  refine AE <| AC <| AB ?_
  refine B3 AA mixed [0, 1, 2, 3, 4, 5, 6, 7] 8 (by kernel_rfl) Z Z Z ?_
  refine Av 3 Z <| bq s fun ab j t => Au Z (Am Z (Aj j Z Z Z <| Av 3 Z <| Au Z (PA (Jl ab.b c) Z Z Z Z Z <| BN Z <| AC <| cd Z t (fun u => ?_) (fun x => ?_))))
  .refine rs AA <| rn 3 Z <| bq u fun ah k v => sx Z (Aj k Z Z Z <| rl Z <| AF <| AO <| AG <| A3 v fun ad w => AO <| AG ?_)
   cases w
   exact er Z Le.rfl
  exact AE <| Ac <| AC <| rg AA <| rl Z <| Ar x (wf hA (gi 3 []) Z Z Z)
 refine AU <| AX <| BK y fun ae z => An <| AC <| rs AA <| rl Z <| AF ?_
 cases z
 exact er Z Le.rfl
noncomputable def EG (b : AK) (a : Int) : Option Int :=
 ((bif decide (a < 0) then some true else some (decide ((b.elems.length : Int) <= a)) : Option (Bool))).bind fun (c : Bool) => bif c then some 0 else (AY b.elems a).bind fun d => some d.kind
theorem Iq (a : AK) (b : Int) (r : Int) (h : EG a b = some r) : Az Tryz.prog 60 [.agg (AV a), .int .i64 b] (· = .int .i64 r) := by
 refine fn AA Tryz.func60 Z Z 20 Z [.tmp 4] Z [(0, .p (.agg (AV a))), (1, .p (.int .i64 b))] Z Z fun A hA => ?_
 unfold EG at h
 refine rs AA <| rl Z <| AB <| jb (fun c : Bool => ⟨20, [(1, li b), (2, .lpb 0 0), (13, lb c)], [(0, bx (AV a))], 1⟩) h (fun c e => ?_) (fun c i => ?_)
 .refine rg AA <| rn 3 Z <| gs 7 e Z Z Z (fun f => ?_) (fun g => ?_)
  .exact rl Z <| AL f (wf hA [(0, 0)] Z Z Z)
  exact rn 3 Z <| sx Z (Ae Z Z <| rl Z <| AL g (wf hA [(0, 0)] Z Z Z))
 refine cd Z i (fun j => ?_) (fun k => ?_)
 .refine rs AA <| rl Z <| AF <| AG ?_
  cases j
  exact er Z Le.rfl
 refine AE <| AC <| rs AA <| rn 3 Z <| bq k fun m d l => sx Z (Aj d Z Z Z <| rl Z <| AF ?_)
 cases l
 exact er Z Le.rfl
noncomputable def FZ (c : (Int × (List AI))) (b : Int) (a : Int) : Option (Int ⊕ (Int ⊕ Bool)) :=
 bif decide (a < b) then (AY c.2 a).bind fun d => (AY c.2 b).bind fun e => bif (d == e) then some (.inr (.inr false)) else some (.inl (AN (a + 1))) else some (.inr (.inl (AN (b + 1))))
noncomputable def Fa (b : AK) (a : Int) : Option (Int ⊕ Bool) :=
 bif decide (a < (b.elems.length : Int)) then D9 (((AY b.elems a).bind fun e => bif (e.kind == 4) then (Fp b (⟨a, 0⟩ : AI)).bind fun c => ((bif (!c.2) then some true else (EG b c.1.elem).bind fun f => some (f == 4) : Option (Bool))).bind fun (d : Bool) => bif d then some (.inr (.inr false)) else some (.inl ()) else some (.inl ()) : Option (Unit ⊕ (Int ⊕ Bool)))) fun (g : Unit) => some (.inl (AN (a + 1))) else some (.inr true)
noncomputable def Fb (c : AK) (a : (Int × (List AI))) (b : Int) : Option (Int ⊕ Bool) :=
 bif decide (b < (a.2.length : Int)) then (AY a.2 b).bind fun d => (Jk c d).bind fun e => bif (!e) then some (.inr false) else AQ (FZ a b) 0 else (AQ (Fa c) 0).map .inr
noncomputable def Hs (d : AK) (c : Int × (List AI)) : Option ((Int × (List AI)) ⊕ Bool) :=
 bif decide (c.1 < (d.joins.length : Int)) then (AY d.joins c.1).bind fun e => (AY d.joins c.1).bind fun f => (Bt c.2 [e.a, f.b]).bind fun g => some (.inl (AN (c.1 + 1), g)) else (AQ (Fb d c) 0).map .inr
noncomputable def IL (a : AK) : Option Bool :=
 AQ (Hs a) (0, ([] : List AI))
theorem Vn (d : AK) (r : Bool) (h : IL d = some r) : Az Tryz.prog 98 [.agg (AV d)] (· = .bool r) := by
 refine fn AA Tryz.func98 Z Z 89 Z [.tmp 2] Z [(0, .p (.agg (AV d)))] Z Z fun A hA => ?_
 unfold IL at h
 refine rs AA <| rl Z <| rs AA <| rl Z <| AB <| rs AA <| rl Z <| AH ?_
 apply lp (a := r) (fun c : (Int × (List AI)) => ⟨89, [(1, .lpb 0 0), (3, .lsl 1 2 0 c.2.length), (4, li c.1)], [(0, bx (AV d)), (1, .row 40 2 (c.2.map AT))], 2⟩) h
 . exact A9.trans (Cl 3 40 2 Z) (wf hA [(0, 0), (1, 1)] Z Z Z)
 intro c b2 o
 unfold Hs at o
 refine AB <| rs AA <| rn 3 Z <| sx Z (Ae Z Z <| rl Z <| cd Z o (fun ag => ?_) (fun aw => ?_))
 .refine AE <| AC <| AB <| AH ?_
  refine B3 AA mixed [0, 1, 2, 3, 4, 5, 6, 7, 8, 9, 10, 11, 12, 13, 14, 15] 16 (by kernel_rfl) Z Z Z ?_
  exact Av 4 Z <| bq ag fun bo z am => Au Z (Am Z (Aj z Z Z Z <| Av 5 Z <| bq am fun bp aa an => Au Z (Am Z (Aj aa Z Z Z <| Av 3 Z <| bq an fun b7 ab ap => Au Z (Jg Z (BU (enc := AT) (l := c.2) (m := [bo.a, bp.b]) ab (fun _ => ⟨Z, Z⟩) Z Z Z Z Z Z <| BN Z <| Ac <| AC <| rg AA <| rl Z <| Ar ap (wf hA [(0, 0), (1, 16)] Z Z Z)))))))
 refine AU <| AX <| CF aw fun v a3 => An <| AC <| AB <| rs AA <| rl Z <| AH ?_
 apply lp (a := v) (fun f : Int => ⟨89, [(1, .lpb 0 0), (3, .lsl 1 2 0 c.2.length), (5, li f)], [(0, bx (AV d)), (1, .row 40 2 (c.2.map AT))], 2⟩) a3
 . exact wf hA [(0, 0), (1, 1)] Z Z Z
 intro f w n
 unfold Fb at n
 refine AB <| rs AA <| rl Z <| cd Z n (fun af => ?_) (fun a1 => ?_)
 .refine AE <| AC <| AB <| AH <| AB <| AB ?_
  refine B3 AA mixed [0, 1, 2, 3, 4, 5, 6] 7 (by kernel_rfl) Z Z Z ?_
  refine Av 3 Z <| bq af fun b5 i ah => Au Z (Am Z (Bi i Z Z Z Z <| Au Z (G9 Z (CW i Z Z Z <| bq ah fun b6 y ai => Au Z (A7 (Ud _ _ _ y) (.inl Z) Z Z Z <| BN Z <| AC <| cd Z ai (fun aj => ?_) (fun al => ?_))))))
  .refine rs AA <| rl Z <| AF <| AG <| AO <| AG <| A3 aj fun bt ak => AO <| AG ?_
   cases ak
   exact er Z Le.rfl
  refine AE <| AC <| rs AA <| rl Z <| AH ?_
  apply lp (a := w) (fun t : Int => ⟨89, [(1, .lpb 0 0), (3, .lsl 1 2 0 c.2.length), (5, li f), (6, li t)], [(0, bx (AV d)), (1, .row 40 2 (c.2.map AT))], 2⟩) al
  . exact wf hA [(0, 0), (1, 1)] Z Z Z
  intro t b3 q
  unfold FZ at q
  refine AB <| rs AA <| rl Z <| cd Z q (fun ao => ?_) (fun az => ?_)
  .refine AE <| AC <| AB <| AH <| AB ?_
   refine B3 AA mixed [0, 1, 2, 3, 4, 5, 6, 7, 8] 9 (by kernel_rfl) Z Z Z ?_
   refine Av 2 Z <| bq ao fun br j aq => Au Z (Am Z (Bi j Z Z Z Z <| Au Z (G9 Z (CW j Z Z Z <| Av 2 Z <| bq aq fun bs k ar => Au Z (Am Z (Bi k Z Z Z Z <| Au Z (G9 Z (CW k Z Z Z <| Au Z (PA (Jl br bs) Z Z Z Z Z <| BN Z <| AC <| cd Z ar (fun au => ?_) (fun ay => ?_))))))))))
   .refine rs AA <| rl Z <| AF <| AO <| AG <| A3 au fun bu av => AO <| AO <| AG <| A3 av fun bv ax => AO <| AG ?_
    cases ax
    exact er Z Le.rfl
   exact AE <| Ac <| AC <| rg AA <| rl Z <| Ar ay (wf hA [(0, 0), (1, 1)] Z Z Z)
  exact AU <| AX <| BK az fun bw a0 => An <| Ac <| AC <| rg AA <| rl Z <| Ar a0 (wf hA [(0, 0), (1, 1)] Z Z Z)
 refine AU <| AX <| CF a1 fun u a2 => An <| AC <| AB <| rs AA <| rl Z <| AH ?_
 apply lp (a := u) (fun e : Int => ⟨89, [(1, .lpb 0 0), (7, li e)], [(0, bx (AV d))], 1⟩) a2
 . exact wf hA [(0, 0)] Z Z Z
 intro e x s
 unfold Fa at s
 refine AB <| rs AA <| rn 3 Z <| sx Z (Ae Z Z <| rl Z <| cd Z s (fun a4 => ?_) (fun bl => ?_))
 .refine AE <| AC ?_
  apply jn (a := x) (fun bn : Unit => ⟨89, [(1, .lpb 0 0), (7, li e)], [(0, bx (AV d))], 1⟩) a4
  .intro b4 a5
   refine AH <| rs AA <| rn 3 Z <| bq a5 fun b8 ac a6 => sx Z (Aj ac Z Z Z <| rl Z <| cd Z a6 (fun a7 => ?_) (fun bj => ?_))
   .refine rs AA <| rn 3 Z <| bq a7 fun b9 ad a8 => sx Z (AM (MF _ _ _ ad) (.inl Z) Z Z Z <| rl Z <| jb (fun g : Bool => ⟨89, [(1, .lpb 0 0), (7, li e), (88, lb g)], [(0, bx (AV d))], 1⟩) a8 (fun g a9 => ?_) (fun g be => ?_))
    .refine rg AA <| rn 3 Z <| gs 82 a9 Z Z Z (fun ba => ?_) (fun bb => ?_)
     .exact rl Z <| AL ba (wf hA [(0, 0)] Z Z Z)
     exact rn 3 Z <| bq bb fun ca ae bc => sx Z (AM (Iq _ _ _ ae) (.inl Z) Z Z Z <| rl Z <| AL bc (wf hA [(0, 0)] Z Z Z))
    refine cd Z be (fun bf => ?_) (fun bi => ?_)
    .refine rs AA <| rl Z <| AF <| AO <| A3 bf fun bz bg => A3 bg fun b0 bh => AO <| AG ?_
     cases bh
     exact er Z Le.rfl
    exact AE <| Ac <| Ar bi (wf hA [(0, 0)] Z Z Z)
   exact AE <| Ac <| Ar bj (wf hA [(0, 0)] Z Z Z)
  intro bn bk
  exact rg AA <| rl Z <| Ar bk (wf hA [(0, 0)] Z Z Z)
 refine AU <| AX <| BK bl fun b1 bm => An <| AC <| rs AA <| rl Z <| AF ?_
 cases bm
 exact er Z Le.rfl
noncomputable def Ic (b : AK) (c : AI) (a : Int) : Option (Int ⊕ Int) :=
 bif decide (a < (b.signals.length : Int)) then (AY b.signals a).bind fun d => bif (d.at_ == c) then some (.inr a) else some (.inl (AN (a + 1))) else some (.inr (-1))
noncomputable def Eu (a : AK) (b : AI) : Option Int :=
 AQ (Ic a b) 0
theorem Rf (c : AK) (b : AI) (r : Int) (h : Eu c b = some r) : Az Tryz.prog 44 [.agg (AV c), .agg (AT b)] (· = .int .i64 r) := by
 refine fn AA Tryz.func44 Z Z 22 Z [.tmp 4] Z [(0, .p (.agg (AV c))), (1, .p (.agg (AT b)))] Z Z fun A hA => ?_
 unfold Eu at h
 refine rs AA <| rl Z <| AB <| rs AA <| rl Z <| AH ?_
 apply lp (a := r) (fun e : Int => ⟨22, [(2, .lpb 0 0), (3, .lpb 1 0), (5, li e)], [(0, bx (AV c)), (1, .box [li b.elem, li b.fin])], 2⟩) h
 . exact wf hA [(0, 0), (1, 1)] Z Z Z
 intro e t d
 unfold Ic at d
 refine AB <| rs AA <| rn 3 Z <| sx Z (Ae Z Z <| rl Z <| cd Z d (fun n => ?_) (fun l => ?_))
 .refine AE <| AC <| AB <| AH <| AB ?_
  refine B3 AA mixed [0, 1, 2, 3, 4, 5, 6, 7] 8 (by kernel_rfl) Z Z Z ?_
  refine Av 3 Z <| bq n fun o f g => Au Z (Am Z (Aj f Z Z Z <| Av 3 Z <| Au Z (PA (Jl o.at_ b) Z Z Z Z Z <| BN Z <| AC <| cd Z g (fun i => ?_) (fun k => ?_))))
  .refine rs AA <| rl Z <| AF <| AO <| AG <| A3 i fun q j => AO <| AG ?_
   have hr := Option.some.inj j; subst hr
   exact er Z Le.rfl
  exact AE <| Ac <| AC <| rg AA <| rl Z <| Ar k (wf hA [(0, 0), (1, 1)] Z Z Z)
 refine AU <| AX <| BK l fun s m => An <| AC <| rs AA <| rl Z <| AF ?_
 cases m
 exact er Z Le.rfl
noncomputable def Ev (b : AK) (a : Int) : Option (Int ⊕ Bool) :=
 bif decide (a < (b.elems.length : Int)) then (((AY b.elems a).bind fun d => bif (d.kind == 4) then (Eu b (⟨a, 0⟩ : AI)).bind fun e => some (decide (e < 0)) else some false : Option (Bool))).bind fun (c : Bool) => bif c then some (.inr false) else some (.inl (AN (a + 1))) else some (.inr true)
noncomputable def Gv (a : AK) (b : Int) : Option (Int ⊕ Bool) :=
 bif decide (b < (a.signals.length : Int)) then (AY a.signals b).bind fun c => (EG a c.at_.elem).bind fun d => (((Jk a c.at_).bind fun h => bif (!h) then some true else bif (d != 1) then some (d != 4) else some false : Option (Bool))).bind fun (f : Bool) => bif f then some (.inr false) else (Fp a c.at_).bind fun e => ((bif (!e.2) then some true else (EG a e.1.elem).bind fun i => bif (i == 4) then some true else (Eu a c.at_).bind fun j => some (j != b) : Option (Bool))).bind fun (g : Bool) => bif g then some (.inr false) else some (.inl (AN (b + 1))) else (AQ (Ev a) 0).map .inr
noncomputable def HN (a : AK) : Option Bool :=
 AQ (Gv a) 0
theorem Ue (b : AK) (r : Bool) (h : HN b = some r) : Az Tryz.prog 99 [.agg (AV b)] (· = .bool r) := by
 refine fn AA Tryz.func99 Z Z 81 Z [.tmp 2] Z [(0, .p (.agg (AV b)))] Z Z fun A hA => ?_
 unfold HN at h
 refine rs AA <| rl Z <| AB <| rs AA <| rl Z <| AH ?_
 apply lp (a := r) (fun c : Int => ⟨81, [(1, .lpb 0 0), (3, li c)], [(0, bx (AV b))], 1⟩) h
 . exact wf hA [(0, 0)] Z Z Z
 intro c bh j
 unfold Gv at j
 refine AB <| rs AA <| rn 3 Z <| sx Z (Ae Z Z <| rl Z <| cd Z j (fun ai => ?_) (fun a9 => ?_))
 .refine AE <| AC <| AB <| AH <| rs AA <| rn 3 Z <| bq ai fun k o aj => sx Z (Aj o Z Z Z <| rl Z <| rs AA <| rn 3 Z <| bq aj fun bk q ak => sx Z (AM (Iq _ _ _ q) (.inl Z) Z Z Z <| rl Z <| AB <| jb (fun f : Bool => ⟨81, [(1, .lpb 0 0), (3, li c), (4, .lpb 1 0), (37, lb f)], [(0, bx (AV b)), (1, .box [li k.at_.elem, li k.at_.fin])], 2⟩) ak (fun f al => ?_) (fun f ar => ?_)))
  .refine rg AA <| rn 2 Z <| bq al fun bl s am => sx Z (AM (Ud _ _ _ s) (.inl Z) Z Z Z <| rn 2 Z <| gs 30 am Z Z Z (fun an => ?_) (fun ao => ?_))
   .exact rl Z <| AL an (wf hA [(0, 0), (1, 1)] Z Z Z)
   refine rn 3 Z <| gs 33 ao Z Z Z (fun ap => ?_) (fun aq => ?_)
   .exact rl Z <| AL ap (wf hA [(0, 0), (1, 1)] Z Z Z)
   exact rl Z <| AL aq (wf hA [(0, 0), (1, 1)] Z Z Z)
  refine cd Z ar (fun au => ?_) (fun aw => ?_)
  .refine rs AA <| rl Z <| AF <| AG <| AO <| AG <| A3 au fun be av => AO <| AG ?_
   cases av
   exact er Z Le.rfl
  refine AE <| AC <| rs AA <| rn 2 Z <| bq aw fun bm t ax => sx Z (AM (MF _ _ _ t) (.inl Z) Z Z Z <| rl Z <| jb (fun g : Bool => ⟨81, [(1, .lpb 0 0), (3, li c), (59, lb g)], [(0, bx (AV b))], 1⟩) ax (fun g ay => ?_) (fun g a5 => ?_))
  .refine rg AA <| rn 3 Z <| gs 46 ay Z Z Z (fun az => ?_) (fun a0 => ?_)
   .exact rl Z <| AL az (wf hA [(0, 0)] Z Z Z)
   refine rn 3 Z <| bq a0 fun bn u a1 => sx Z (AM (Iq _ _ _ u) (.inl Z) Z Z Z <| rn 3 Z <| gs 53 a1 Z Z Z (fun a2 => ?_) (fun a3 => ?_))
   .exact rl Z <| AL a2 (wf hA [(0, 0)] Z Z Z)
   exact rn 2 Z <| bq a3 fun bo v a4 => sx Z (AM (Rf _ _ _ v) (.inl Z) Z Z Z <| rl Z <| AL a4 (wf hA [(0, 0)] Z Z Z))
  refine cd Z a5 (fun a6 => ?_) (fun a8 => ?_)
  .refine rs AA <| rl Z <| AF <| AO <| AG <| A3 a6 fun bf a7 => AO <| AG ?_
   cases a7
   exact er Z Le.rfl
  exact AE <| Ac <| AC <| rg AA <| rl Z <| Ar a8 (wf hA [(0, 0)] Z Z Z)
 refine AU <| AX <| CF a9 fun l ba => An <| AC <| AB <| rs AA <| rl Z <| AH ?_
 apply lp (a := l) (fun d : Int => ⟨81, [(1, .lpb 0 0), (8, li d)], [(0, bx (AV b))], 1⟩) ba
 . exact wf hA [(0, 0)] Z Z Z
 intro d bg i
 unfold Ev at i
 refine AB <| rs AA <| rn 3 Z <| sx Z (Ae Z Z <| rl Z <| cd Z i (fun w => ?_) (fun ag => ?_))
 .refine AE <| AC <| AB <| AH <| jb (fun e : Bool => ⟨81, [(1, .lpb 0 0), (8, li d), (80, lb e)], [(0, bx (AV b))], 1⟩) w (fun e x => ?_) (fun e ac => ?_)
  .refine rg AA <| rn 3 Z <| bq x fun bi m y => sx Z (Aj m Z Z Z <| rn 4 Z <| gs 74 y Z Z Z (fun z => ?_) (fun ab => ?_))
   .exact rn 3 Z <| bq z fun bj n aa => sx Z (AM (Rf _ _ _ n) (.inl Z) Z Z Z <| rl Z <| AL aa (wf hA [(0, 0)] Z Z Z))
   exact rl Z <| AL ab (wf hA [(0, 0)] Z Z Z)
  refine cd Z ac (fun ad => ?_) (fun af => ?_)
  .refine rs AA <| rl Z <| AF <| AO <| AG <| A3 ad fun bb ae => AO <| AG ?_
   cases ae
   exact er Z Le.rfl
  exact AE <| Ac <| AC <| rg AA <| rl Z <| Ar af (wf hA [(0, 0)] Z Z Z)
 refine AU <| AX <| BK ag fun bc ah => An <| AC <| rs AA <| rl Z <| AF ?_
 cases ah
 exact er Z Le.rfl
noncomputable def Ew (b : (List Int)) (c : Int) (a : Int) : Option (Int ⊕ Bool) :=
 bif decide (a < (b.length : Int)) then (AY b a).bind fun d => bif (d == c) then some (.inr true) else some (.inl (AN (a + 1))) else some (.inr false)
noncomputable def Ir (a : (List Int)) (b : Int) : Option Bool :=
 AQ (Ew a b) 0
theorem WR (b : (List Int)) (c : Int) (r : Bool) (h : Ir b c = some r) : Az Tryz.prog 28 [.slice 1 (b.map Ad), .int .i64 c] (· = .bool r) := by
 refine fn AA Tryz.func28 Z Z 18 Z [.tmp 4] Z [(0, .p (.slice 1 (b.map Ad))), (1, .p (.int .i64 c))] Z Z fun A hA => ?_
 unfold Ir at h
 refine rs AA <| rl Z <| AB <| rs AA <| rl Z <| AH ?_
 apply lp (a := r) (fun e : Int => ⟨18, [(0, ls 1 Ad b), (1, li c), (5, li e)], [], 0⟩) h
 . exact wf hA [] Z Z Z
 intro e s d
 unfold Ew at d
 refine AB <| rs AA <| rn 2 Z <| sx Z (Ae Z Z <| rl Z <| cd Z d (fun n => ?_) (fun l => ?_))
 .refine AE <| AC <| AB <| AH <| rs AA <| rn 2 Z <| bq n fun t f g => sx Z (Aj f Z Z Z <| rl Z <| cd Z g (fun i => ?_) (fun k => ?_))
  .refine rs AA <| rl Z <| AF <| AO <| AG <| A3 i fun o j => AO <| AG ?_
   cases j
   exact er Z Le.rfl
  exact AE <| Ac <| AC <| rg AA <| rl Z <| Ar k (wf hA [] Z Z Z)
 refine AU <| AX <| BK l fun q m => An <| AC <| rs AA <| rl Z <| AF ?_
 cases m
 exact er Z Le.rfl
noncomputable def Fc (e : AK) (c : (List Int)) (a : Int × Int × (List Int)) : Option ((Int × Int × (List Int)) ⊕ ((List Int) × Bool)) :=
 bif decide (a.2.1 < (c.length : Int)) then (AY c (AN (a.2.1 - 1))).bind fun f => (Fp e (⟨f, a.1⟩ : AI)).bind fun b => ((bif (!b.2) then some true else (AY c a.2.1).bind fun g => some (b.1.elem != g) : Option (Bool))).bind fun (d : Bool) => bif d then some (.inr ([], false)) else (Bt a.2.2 [b.1.fin]).bind fun h => some (.inl (AN (1 - b.1.fin), AN (a.2.1 + 1), h)) else some (.inr (a.2.2, true))
noncomputable def DP (c : AK) (b : (List Int)) (a : Int × Int) : Option ((Int × Int) ⊕ ((List Int) × Bool)) :=
 bif decide (0 <= a.2) then (((AY b 0).bind fun g => (Fp c (⟨g, a.2⟩ : AI)).bind fun d => ((bif d.2 then (AY b 1).bind fun h => some (d.1.elem == h) else some false : Option (Bool))).bind fun (f : Bool) => bif f then some a.2 else some a.1 : Option (Int))).bind fun (e : Int) => some (.inl (e, AN (a.2 - 1))) else (bif decide (a.1 < 0) then some ([], false) else AQ (Fc c b) (a.1, 1, [AN (1 - a.1)])).map .inr
noncomputable def Ht (c : AK) (a : (List Int)) (b : Int) : Option (Int ⊕ ((List Int) × Bool)) :=
 bif decide (b < (a.length : Int)) then (AY a b).bind fun d => (EG c d).bind fun e => bif (e != 1) then some (.inr ([], false)) else some (.inl (AN (b + 1))) else (bif ((a.length : Int) == 1) then some ([0], true) else AQ (DP c a) ((-1), 1)).map .inr
noncomputable def IM (b : AK) (a : (List Int)) : Option ((List Int) × Bool) :=
 bif ((a.length : Int) == 0) then some ([], false) else AQ (Ht b a) 0
theorem Vo (c : AK) (d : (List Int)) (r : ((List Int) × Bool)) (h : IM c d = some r) : Az Tryz.prog 141 [.agg (AV c), .slice 1 (d.map Ad)] (· = .tup [.slice 1 (r.1.map Ad), .bool r.2]) := by
 refine fn AA Tryz.func141 Z Z 102 Z [.tmp 4, .tmp 5] Z [(0, .p (.agg (AV c))), (1, .p (.slice 1 (d.map Ad)))] Z Z fun A hA => ?_
 unfold IM at h
 refine rs AA <| rl Z <| AB <| rs AA <| rn 1 Z <| sx Z (Ae Z Z <| rl Z <| cd Z h (fun an => ?_) (fun ao => ?_))
 .refine rs AA <| rl Z <| AF <| AG ?_
  cases an
  exact er Z (Le.tup' (.cons (Le.nil _) (.cons Le.rfl .nil)))
 refine AE <| AC <| AB <| rs AA <| rl Z <| AH ?_
 apply lp (a := r) (fun q : Int => ⟨102, [(1, ls 1 Ad d), (2, .lpb 0 0), (6, li q)], [(0, bx (AV c))], 1⟩) ao
 . exact wf hA [(0, 0)] Z Z Z
 intro q bp k
 unfold Ht at k
 refine AB <| rs AA <| rn 2 Z <| sx Z (Ae Z Z <| rl Z <| cd Z k (fun ad => ?_) (fun aj => ?_))
 .refine AE <| AC <| AB <| AH <| AB ?_
  refine B3 AA mixed [0, 1, 2, 3, 4, 5, 6] 7 (by kernel_rfl) Z Z Z ?_
  refine Av 3 Z <| bq ad fun bt u ae => Au Z (Am Z (Aj u Z Z Z <| Av 1 Z <| bq ae fun bu v af => Au Z (A7 (Iq _ _ _ v) (.inl Z) Z Z Z <| BN Z <| AC <| cd Z af (fun ag => ?_) (fun ai => ?_))))
  .refine rs AA <| rl Z <| AF <| AO <| AG <| A3 ag fun bm ah => AO <| AG ?_
   cases ah
   exact er Z (Le.tup' (.cons (Le.nil _) (.cons Le.rfl .nil)))
  exact AE <| Ac <| AC <| rg AA <| rl Z <| Ar ai (wf hA [(0, 0)] Z Z Z)
 refine AU <| AX <| CF aj fun s ak => An <| AC <| AB <| rs AA <| rn 1 Z <| sx Z (Ae Z Z <| rl Z <| cd Z ak (fun al => ?_) (fun am => ?_))
 .refine rs AA <| rl Z <| AF <| AG ?_
  cases al
  exact er (UR Z (.cons (.one (.own (enc := Ad) ([0] : List Int) Z Z)) (.cons (.one (.p _)) .nil))) Le.rfl
 refine AE <| AC <| rs AA <| rl Z <| AB <| rs AA <| rl Z <| AH ?_
 apply lp (a := s) (fun e : (Int × Int) => ⟨102, [(1, ls 1 Ad d), (2, .lpb 0 0), (7, li e.1), (8, li e.2)], [(0, bx (AV c))], 1⟩) am
 . exact wf hA [(0, 0)] Z Z Z
 intro e br n
 unfold DP at n
 refine AB <| rs AA <| rl Z <| cd Z n (fun ap => ?_) (fun a3 => ?_)
 .refine AE <| AC <| jb (fun f : Int => ⟨102, [(1, ls 1 Ad d), (2, .lpb 0 0), (7, li f), (8, li e.2)], [(0, bx (AV c))], 1⟩) ap (fun f aq => ?_) (fun f a2 => ?_)
  .refine AH <| AB ?_
   refine B3 AA mixed [0, 1, 2, 3, 4, 5, 6, 7, 8, 9, 10, 11, 12] 13 (by kernel_rfl) Z Z Z ?_
   refine Av 2 Z <| bq aq fun bv w ar => Au Z (Am Z (Aj w Z Z Z <| Av 3 Z <| bq ar fun bw x au => Au Z (A7 (MF _ _ _ x) (.inl Z) Z Z Z <| BN Z <| AC <| jb (fun g : Bool => ⟨102, [(1, ls 1 Ad d), (2, .lpb 0 0), (7, li e.1), (8, li e.2), (57, lb g)], [(0, bx (AV c))], 1⟩) au (fun g av => ?_) (fun g az => ?_))))
   .refine B3 AA mixed [0, 1, 2, 3, 4, 5, 6, 7, 8] 9 (by kernel_rfl) Z Z Z ?_
    refine Av 2 Z <| FF 50 av Z Z Z (fun aw => ?_) (fun ay => ?_)
    .exact Av 3 Z <| bq aw fun bz y ax => Au Z (Am Z (Aj y Z Z Z <| BN Z <| AL ax (wf hA [(0, 0)] Z Z Z)))
    exact BN Z <| AL ay (wf hA [(0, 0)] Z Z Z)
   refine cd Z az (fun a0 => ?_) (fun a1 => ?_)
   .exact rg AA <| rl Z <| Ac <| AL a0 (wf hA [(0, 0)] Z Z Z)
   exact AE <| Ac <| AL a1 (wf hA [(0, 0)] Z Z Z)
  exact rg AA <| rl Z <| Ar a2 (wf hA [(0, 0)] Z Z Z)
 refine AU <| AX <| CF a3 fun t a4 => An <| AC <| AB <| rs AA <| rl Z <| cd Z a4 (fun a5 => ?_) (fun a6 => ?_)
 .refine rs AA <| rl Z <| AF <| AG ?_
  cases a5
  exact er Z (Le.tup' (.cons (Le.nil _) (.cons Le.rfl .nil)))
 refine AE <| AC <| rs AA <| rl Z <| AB <| rs AA <| rl Z <| AH ?_
 apply lp (a := t) (fun b : (Int × Int × (List Int)) => ⟨102, [(1, ls 1 Ad d), (2, .lpb 0 0), (7, li b.1), (11, .lsl 1 1 0 b.2.2.length), (12, li b.2.1)], [(0, bx (AV c)), (1, .row 3 1 (b.2.2.map Ad))], 2⟩) a6
 . exact wf hA [(0, 0), (1, 1)] Z Z Z
 intro b bs o
 unfold Fc at o
 refine AB <| rs AA <| rn 2 Z <| sx Z (Ae Z Z <| rl Z <| cd Z o (fun a7 => ?_) (fun bk => ?_))
 .refine AE <| AC <| AB <| AH <| AB ?_
  refine B3 AA mixed [0, 1, 2, 3, 4, 5, 6, 7, 8, 9, 10, 11, 12, 13, 14] 15 (by kernel_rfl) Z Z Z ?_
  refine Av 4 Z <| bq a7 fun b0 z a8 => Au Z (Am Z (Aj z Z Z Z <| Av 3 Z <| bq a8 fun j aa a9 => Au Z (A7 (MF _ _ _ aa) (.inl Z) Z Z Z <| BN Z <| AC <| AB <| jb (fun i : Bool => ⟨102, [(1, ls 1 Ad d), (2, .lpb 0 0), (11, .lsl 1 1 0 b.2.2.length), (12, li b.2.1), (13, .lpb 2 0), (92, lb i)], [(0, bx (AV c)), (1, .row 3 1 (b.2.2.map Ad)), (2, .box [li j.1.elem, li j.1.fin])], 3⟩) a9 (fun i ba => ?_) (fun i bf => ?_))))
  .refine B3 AA mixed [0, 1, 2, 3, 4, 5, 6, 7, 8, 9, 10] 11 (by kernel_rfl) Z Z Z ?_
   refine Av 3 Z <| FF 84 ba Z Z Z (fun bb => ?_) (fun bc => ?_)
   .exact BN Z <| AL bb (wf hA [(0, 0), (1, 1), (2, 14)] Z Z Z)
   exact Av 4 Z <| bq bc fun b1 ab be => Au Z (Am Z (Aj ab Z Z Z <| BN Z <| AL be (wf hA [(0, 0), (1, 1), (2, 14)] Z Z Z)))
  refine cd Z bf (fun bg => ?_) (fun bi => ?_)
  .refine rs AA <| rl Z <| AF <| AG <| AO <| AG <| A3 bg fun bn bh => AO <| AG ?_
   cases bh
   exact er Z (Le.tup' (.cons (Le.nil _) (.cons Le.rfl .nil)))
  exact AE <| AC <| rs AA <| rn 4 Z <| bq bi fun b2 ac bj => sx Z (BU (enc := Ad) (l := b.2.2) (m := [j.1.fin]) ac (fun _ => ⟨Z, Z⟩) Z Z Z Z Z Z <| rl Z <| rg AA <| rl Z <| Ac <| AC <| rg AA <| rl Z <| Ar bj (wf hA [(0, 0), (1, 4)] Z Z Z))
 refine AU <| AX <| BK bk fun bo bl => An <| AC <| rs AA <| rl Z <| AF ?_
 cases bl
 exact er (UR Z (.cons (.one (.own (enc := Ad) b.2.2 Z Z)) (.cons (.one (.p _)) .nil))) Le.rfl
end Go.E
/- Plain functions, and walks in step with them. Written by a program (gen.py). No condition. -/
set_option maxRecDepth 100000
set_option maxHeartbeats 1000000
namespace Go.E
open Go Go.RowKit Go.Proofs
noncomputable def GO (d : AK) (c : (Int × (List Int))) (b : C2) (a : Int × (List Int)) : Option ((Int × (List Int)) ⊕ ((Int × (List Int)) ⊕ Bool)) :=
 bif decide (a.1 < (b.elems.length : Int)) then (AY b.elems a.1).bind fun e => (Ir a.2 e).bind fun f => bif f then some (.inr (.inr false)) else (AY b.elems a.1).bind fun g => (Bt a.2 [g]).bind fun h => some (.inl (AN (a.1 + 1), h)) else ((IM d b.elems).bind fun i => bif (!i.2) then some (.inr false) else some (.inl (AN (c.1 + 1), a.2))).map .inr
noncomputable def Ie (b : AK) (a : Int × (List Int)) : Option ((Int × (List Int)) ⊕ Bool) :=
 bif decide (a.1 < (b.lines.length : Int)) then (AY b.lines a.1).bind fun c => AQ (GO b a c) (0, a.2) else some (.inr true)
noncomputable def JI (a : AK) : Option Bool :=
 AQ (Ie a) (0, ([] : List Int))
theorem XL (d : AK) (r : Bool) (h : JI d = some r) : Az Tryz.prog 100 [.agg (AV d)] (· = .bool r) := by
 refine fn AA Tryz.func100 Z Z 49 Z [.tmp 2] Z [(0, .p (.agg (AV d)))] Z Z fun A hA => ?_
 unfold JI at h
 refine rs AA <| rl Z <| rs AA <| rl Z <| AB <| rs AA <| rl Z <| AH ?_
 apply lp (a := r) (fun c : (Int × (List Int)) => ⟨49, [(1, .lpb 0 0), (3, .lsl 1 1 0 c.2.length), (4, li c.1)], [(0, bx (AV d)), (1, .row 3 1 (c.2.map Ad))], 2⟩) h
 . exact A9.trans (Cl 3 3 1 Z) (wf hA [(0, 0), (1, 1)] Z Z Z)
 intro c g e
 unfold Ie at e
 refine AB <| rs AA <| rn 3 Z <| sx Z (Ae Z Z <| rl Z <| cd Z e (fun s => ?_) (fun aj => ?_))
 .refine AE <| AC <| AB <| AH <| rs AA <| rn 3 Z <| bq s fun al i t => sx Z (Aj i Z Z Z <| rl Z <| AB <| rs AA <| rl Z <| AH ?_)
  apply lp (a := g) (fun b : (Int × (List Int)) => ⟨49, [(1, .lpb 0 0), (3, .lsl 1 1 0 b.2.length), (4, li c.1), (5, ls 1 Ad al.elems), (6, li b.1)], [(0, bx (AV d)), (1, .row 3 1 (b.2.map Ad))], 2⟩) t
  . exact wf hA [(0, 0), (1, 1)] Z Z Z
  intro b au f
  unfold GO at f
  refine AB <| rs AA <| rn 2 Z <| sx Z (Ae Z Z <| rl Z <| cd Z f (fun u => ?_) (fun ad => ?_))
  .refine AE <| AC <| AB <| AH <| AB <| rs AA <| rn 3 Z <| bq u fun av j v => sx Z (Aj j Z Z Z <| rn 1 Z <| bq v fun aw k w => sx Z (AM (WR _ _ _ k) (.inl Z) Z Z (D1.eq (.cons (.one (.own (enc := Ad) b.2 Z Z)) (.cons (.one (.p _)) .nil))) <| rl Z <| cd Z w (fun x => ?_) (fun aa => ?_)))
   .refine rs AA <| rl Z <| AF <| AG <| AO <| AG <| A3 x fun an y => AO <| AG <| AO <| AG <| A3 y fun ao z => AO <| AG ?_
    cases z
    exact er Z Le.rfl
   exact AE <| AC <| rg AA <| rn 3 Z <| bq aa fun am n ab => sx Z (Aj n Z Z Z <| rn 2 Z <| bq ab fun ax o ac => sx Z (BU (enc := Ad) (l := b.2) (m := [am]) o (fun _ => ⟨Z, Z⟩) Z Z Z Z Z Z <| rl Z <| Ac <| AC <| rg AA <| rl Z <| Ar ac (wf hA [(0, 0), (1, 3)] Z Z Z)))
  refine AU <| AX <| CF ad fun ap ae => An <| AC <| rs AA <| rn 2 Z <| bq ae fun ay q af => sx Z (AM (Vo _ _ _ q) (.inr Z) Z Z Z <| rl Z <| rs AA <| rl Z <| cd Z af (fun ag => ?_) (fun ai => ?_))
  .refine rs AA <| rl Z <| AF <| AO <| AG <| A3 ag fun aq ah => AO <| AG ?_
   cases ah
   exact er Z Le.rfl
  exact AE <| Ac <| AC <| rg AA <| rl Z <| Ar ai (wf hA [(0, 0), (1, 1)] Z Z Z)
 refine AU <| AX <| BK aj fun ar ak => An <| AC <| rs AA <| rl Z <| AF ?_
 cases ak
 exact er Z Le.rfl
noncomputable def JJ (b : Int) (a : Int × Int) : Option ((Int × Int) ⊕ Int) :=
 bif decide (0 < a.1) then some (.inl (AN (a.1 - b), AN (a.2 + a.1))) else some (.inr a.2)
noncomputable def Is (b : Int) (a : Int) : Option Int :=
 ((bif decide (b < 0) then some true else bif decide (60 < b) then some true else bif decide (a < 1) then some true else some (decide (10 < a)) : Option (Bool))).bind fun (c : Bool) => bif c then some 0 else AQ (JJ a) (AN (b - a), 0)
theorem YN (c : Int) (b : Int) (r : Int) (h : Is c b = some r) : Az Tryz.prog 142 [.int .i64 c, .int .i64 b] (· = .int .i64 r) := by
 refine fn AA Tryz.func142 Z Z 32 Z [.tmp 4] Z [(0, .p (.int .i64 c)), (1, .p (.int .i64 b))] Z Z fun A hA => ?_
 unfold Is at h
 refine rs AA <| rl Z <| AB <| jb (fun e : Bool => ⟨32, [(0, li c), (1, li b), (19, lb e)], [], 0⟩) h (fun e g => ?_) (fun e o => ?_)
 .refine rg AA <| rn 3 Z <| gs 8 g Z Z Z (fun i => ?_) (fun j => ?_)
  .exact rl Z <| AL i (wf hA [] Z Z Z)
  refine rn 4 Z <| gs 12 j Z Z Z (fun k => ?_) (fun l => ?_)
  .exact rl Z <| AL k (wf hA [] Z Z Z)
  refine rn 4 Z <| gs 16 l Z Z Z (fun m => ?_) (fun n => ?_)
  .exact rl Z <| AL m (wf hA [] Z Z Z)
  exact rl Z <| AL n (wf hA [] Z Z Z)
 refine cd Z o (fun q => ?_) (fun s => ?_)
 .refine rs AA <| rl Z <| AF <| AG ?_
  cases q
  exact er Z Le.rfl
 refine AE <| AC <| rs AA <| rl Z <| AB <| rs AA <| rl Z <| AH ?_
 apply lp (a := r) (fun d : (Int × Int) => ⟨32, [(0, li d.1), (1, li b), (5, li d.2)], [], 0⟩) s
 . exact wf hA [] Z Z Z
 intro d x f
 unfold JJ at f
 refine AB <| rs AA <| rl Z <| cd Z f (fun t => ?_) (fun u => ?_)
 .exact AE <| AC <| AB <| AH <| rg AA <| rl Z <| Ac <| AC <| rg AA <| rl Z <| Ar t (wf hA [] Z Z Z)
 refine AU <| AX <| BK u fun w v => An <| AC <| rs AA <| rl Z <| AF ?_
 cases v
 exact er Z Le.rfl
noncomputable def Gf (b : AK) (a : Int) : Option Int :=
 ((bif decide (a < 0) then some true else some (decide ((b.elems.length : Int) <= a)) : Option (Bool))).bind fun (c : Bool) => bif c then some 0 else (AY b.elems a).bind fun d => some d.length
theorem Vp (a : AK) (b : Int) (r : Int) (h : Gf a b = some r) : Az Tryz.prog 59 [.agg (AV a), .int .i64 b] (· = .int .i64 r) := by
 refine fn AA Tryz.func59 Z Z 20 Z [.tmp 4] Z [(0, .p (.agg (AV a))), (1, .p (.int .i64 b))] Z Z fun A hA => ?_
 unfold Gf at h
 refine rs AA <| rl Z <| AB <| jb (fun c : Bool => ⟨20, [(1, li b), (2, .lpb 0 0), (13, lb c)], [(0, bx (AV a))], 1⟩) h (fun c e => ?_) (fun c i => ?_)
 .refine rg AA <| rn 3 Z <| gs 7 e Z Z Z (fun f => ?_) (fun g => ?_)
  .exact rl Z <| AL f (wf hA [(0, 0)] Z Z Z)
  exact rn 3 Z <| sx Z (Ae Z Z <| rl Z <| AL g (wf hA [(0, 0)] Z Z Z))
 refine cd Z i (fun j => ?_) (fun k => ?_)
 .refine rs AA <| rl Z <| AF <| AG ?_
  cases j
  exact er Z Le.rfl
 refine AE <| AC <| rs AA <| rn 3 Z <| bq k fun m d l => sx Z (Aj d Z Z Z <| rl Z <| AF ?_)
 cases l
 exact er Z Le.rfl
noncomputable def HO (b : AK) (a : Int) : Option (Int ⊕ Bool) :=
 bif decide (a < (b.elems.length : Int)) then (((AY b.elems a).bind fun d => bif (d.kind != 4) then (AY b.elems a).bind fun e => some (decide (e.length < b.top)) else some false : Option (Bool))).bind fun (c : Bool) => bif c then some (.inr false) else some (.inl (AN (a + 1))) else some (.inr true)
noncomputable def JK (a : AK) (b : Int) : Option (Int ⊕ Bool) :=
 bif decide (b < (a.signals.length : Int)) then (AY a.signals b).bind fun c => (((EG a c.at_.elem).bind fun e => bif (e == 1) then (Gf a c.at_.elem).bind fun f => some (decide (f < a.margin)) else some false : Option (Bool))).bind fun (d : Bool) => bif d then some (.inr false) else some (.inl (AN (b + 1))) else (AQ (HO a) 0).map .inr
noncomputable def Kc (a : AK) : Option Bool :=
 (Is a.top a.brake).bind fun b => bif decide (a.margin < AN (a.top + b)) then some false else AQ (JK a) 0
theorem YO (b : AK) (r : Bool) (h : Kc b = some r) : Az Tryz.prog 101 [.agg (AV b)] (· = .bool r) := by
 refine fn AA Tryz.func101 Z Z 68 Z [.tmp 2] Z [(0, .p (.agg (AV b)))] Z Z fun A hA => ?_
 unfold Kc at h
 refine rs AA <| rl Z <| AB <| AB ?_
 refine B3 AA mixed [0, 1, 2, 3, 4, 5, 6, 7, 8, 9, 10] 11 (by kernel_rfl) Z Z Z ?_
 refine Av 8 Z <| bq h fun a6 q s => Au Z (A7 (YN _ _ _ q) (.inl Z) Z Z Z <| BN Z <| AC <| cd Z s (fun t => ?_) (fun u => ?_))
 .refine rs AA <| rl Z <| AF <| AG ?_
  cases t
  exact er Z Le.rfl
 refine AE <| AC <| AB <| rs AA <| rl Z <| AH ?_
 apply lp (a := r) (fun c : Int => ⟨68, [(1, .lpb 0 0), (3, li c)], [(0, bx (AV b))], 1⟩) u
 . exact wf hA [(0, 0)] Z Z Z
 intro c az g
 unfold JK at g
 refine AB <| rs AA <| rn 3 Z <| sx Z (Ae Z Z <| rl Z <| cd Z g (fun v => ?_) (fun ag => ?_))
 .refine AE <| AC <| AB <| AH <| rs AA <| rn 3 Z <| bq v fun a1 k w => sx Z (Aj k Z Z Z <| rl Z <| jb (fun e : Bool => ⟨68, [(1, .lpb 0 0), (3, li c), (42, lb e)], [(0, bx (AV b))], 1⟩) w (fun e x => ?_) (fun e ac => ?_))
  .refine B3 AA mixed [0, 1, 2, 3, 4, 5, 6, 7, 8, 9, 10, 11] 12 (by kernel_rfl) Z Z Z ?_
   refine Av 2 Z <| bq x fun a2 l y => Au Z (A7 (Iq _ _ _ l) (.inl Z) Z Z Z <| Av 2 Z <| FF 35 y Z Z Z (fun z => ?_) (fun ab => ?_))
   .exact Av 2 Z <| bq z fun a3 m aa => Au Z (A7 (Vp _ _ _ m) (.inl Z) Z Z Z <| BN Z <| AL aa (wf hA [(0, 0)] Z Z Z))
   exact BN Z <| AL ab (wf hA [(0, 0)] Z Z Z)
  refine cd Z ac (fun ad => ?_) (fun af => ?_)
  .refine rs AA <| rl Z <| AF <| AO <| AG <| A3 ad fun aw ae => AO <| AG ?_
   cases ae
   exact er Z Le.rfl
  exact AE <| Ac <| AC <| rg AA <| rl Z <| Ar af (wf hA [(0, 0)] Z Z Z)
 refine AU <| AX <| CF ag fun j ah => An <| AC <| AB <| rs AA <| rl Z <| AH ?_
 apply lp (a := j) (fun d : Int => ⟨68, [(1, .lpb 0 0), (5, li d)], [(0, bx (AV b))], 1⟩) ah
 . exact wf hA [(0, 0)] Z Z Z
 intro d a0 i
 unfold HO at i
 refine AB <| rs AA <| rn 3 Z <| sx Z (Ae Z Z <| rl Z <| cd Z i (fun ai => ?_) (fun au => ?_))
 .refine AE <| AC <| AB <| AH <| jb (fun f : Bool => ⟨68, [(1, .lpb 0 0), (5, li d), (67, lb f)], [(0, bx (AV b))], 1⟩) ai (fun f aj => ?_) (fun f ao => ?_)
  .refine B3 AA mixed [0, 1, 2, 3, 4, 5, 6, 7, 8, 9, 10, 11, 12, 13, 14, 15, 16, 17] 18 (by kernel_rfl) Z Z Z ?_
   refine Av 3 Z <| bq aj fun a4 n ak => Au Z (Am Z (Aj n Z Z Z <| Av 4 Z <| FF 57 ak Z Z Z (fun al => ?_) (fun an => ?_)))
   .exact Av 3 Z <| bq al fun a5 o am => Au Z (Am Z (Aj o Z Z Z <| BN Z <| AL am (wf hA [(0, 0)] Z Z Z)))
   exact BN Z <| AL an (wf hA [(0, 0)] Z Z Z)
  refine cd Z ao (fun ap => ?_) (fun ar => ?_)
  .refine rs AA <| rl Z <| AF <| AO <| AG <| A3 ap fun ax aq => AO <| AG ?_
   cases aq
   exact er Z Le.rfl
  exact AE <| Ac <| AC <| rg AA <| rl Z <| Ar ar (wf hA [(0, 0)] Z Z Z)
 refine AU <| AX <| BK au fun ay av => An <| AC <| rs AA <| rl Z <| AF ?_
 cases av
 exact er Z Le.rfl
noncomputable def JL (a : AK) : Option Int :=
 ((bif decide (40 < (a.elems.length : Int)) then some true else bif decide (24 < (a.signals.length : Int)) then some true else bif decide (4 < (a.lines.length : Int)) then some true else some (decide (80 < (a.joins.length : Int))) : Option (Bool))).bind fun (d : Bool) => bif d then some 3 else (JA a).bind fun b => (KY a).bind fun l => bif (!l) then some 1 else (((F0 b.1).bind fun e => bif e then some true else (F0 b.2.1).bind fun f => bif f then some true else (F0 b.2.2).bind fun g => some g : Option (Bool))).bind fun (c : Bool) => bif c then some 4 else (IL a).bind fun h => bif (!h) then some 6 else (HN a).bind fun i => bif (!i) then some 7 else (JI a).bind fun j => bif (!j) then some 8 else (Kc a).bind fun k => bif (!k) then some 9 else some 0
theorem XM (a : AK) (r : Int) (h : JL a = some r) : Az Tryz.prog 65 [.agg (AV a)] (· = .int .i64 r) := by
 refine fn AA Tryz.func65 Z Z 65 Z [.tmp 2] Z [(0, .p (.agg (AV a)))] Z Z fun A hA => ?_
 unfold JL at h
 refine rs AA <| rl Z <| AB <| jb (fun c : Bool => ⟨65, [(1, .lpb 0 0), (27, lb c)], [(0, bx (AV a))], 1⟩) h (fun c am => ?_) (fun c av => ?_)
 .refine rg AA <| rn 2 Z <| sx Z (Ae Z Z <| rn 2 Z <| gs 10 am Z Z Z (fun an => ?_) (fun ao => ?_))
  .exact rl Z <| AL an (wf hA [(0, 0)] Z Z Z)
  refine rn 2 Z <| sx Z (Ae Z Z <| rn 3 Z <| gs 16 ao Z Z Z (fun ap => ?_) (fun aq => ?_))
  .exact rl Z <| AL ap (wf hA [(0, 0)] Z Z Z)
  refine rn 2 Z <| sx Z (Ae Z Z <| rn 3 Z <| gs 22 aq Z Z Z (fun ar => ?_) (fun au => ?_))
  .exact rl Z <| AL ar (wf hA [(0, 0)] Z Z Z)
  exact rn 2 Z <| sx Z (Ae Z Z <| rl Z <| AL au (wf hA [(0, 0)] Z Z Z))
 refine cd Z av (fun aw => ?_) (fun ax => ?_)
 .refine rs AA <| rl Z <| AF <| AG ?_
  cases aw
  exact er Z Le.rfl
 refine AE <| AC <| rs AA <| rn 1 Z <| bq ax fun a9 l ay => sx Z (AM (XF _ _ l) (.inr Z) Z Z Z <| rl Z <| AB <| AH <| rs AA <| rn 1 Z <| bq ay fun ba m az => sx Z (AM (YI _ _ m) (.inl Z) Z Z Z <| rl Z <| cd Z az (fun a0 => ?_) (fun a1 => ?_)))
 .refine rs AA <| rl Z <| AF <| AO <| AG ?_
  cases a0
  exact er Z Le.rfl
 refine jb (fun b : Bool => ⟨65, [(1, .lpb 0 0), (38, lb b)], [(0, bx (AV a))], 1⟩) a1 (fun b n => ?_) (fun b x => ?_)
 .refine rg AA <| rn 1 Z <| bq n fun a2 d o => sx Z (AM (N0 _ _ d) (.inl Z) Z Z Z <| rn 1 Z <| gs 41 o Z Z Z (fun q => ?_) (fun s => ?_))
  .exact rl Z <| AL q (wf hA [(0, 0)] Z Z Z)
  refine rn 1 Z <| bq s fun a3 e t => sx Z (AM (N0 _ _ e) (.inl Z) Z Z Z <| rn 2 Z <| gs 45 t Z Z Z (fun u => ?_) (fun v => ?_))
  .exact rl Z <| AL u (wf hA [(0, 0)] Z Z Z)
  exact rn 1 Z <| bq v fun a4 f w => sx Z (AM (N0 _ _ f) (.inl Z) Z Z Z <| rl Z <| AL w (wf hA [(0, 0)] Z Z Z))
 refine cd Z x (fun y => ?_) (fun z => ?_)
 .refine rs AA <| rl Z <| AF <| AO <| AG ?_
  cases y
  exact er Z Le.rfl
 refine rs AA <| rn 1 Z <| bq z fun a5 g aa => sx Z (AM (Vn _ _ g) (.inl Z) Z Z Z <| rl Z <| cd Z aa (fun ab => ?_) (fun ac => ?_))
 .refine rs AA <| rl Z <| AF <| AO <| AG ?_
  cases ab
  exact er Z Le.rfl
 refine rs AA <| rn 1 Z <| bq ac fun a6 i ad => sx Z (AM (Ue _ _ i) (.inl Z) Z Z Z <| rl Z <| cd Z ad (fun ae => ?_) (fun af => ?_))
 .refine rs AA <| rl Z <| AF <| AO <| AG ?_
  cases ae
  exact er Z Le.rfl
 refine rs AA <| rn 1 Z <| bq af fun a7 j ag => sx Z (AM (XL _ _ j) (.inl Z) Z Z Z <| rl Z <| cd Z ag (fun ah => ?_) (fun ai => ?_))
 .refine rs AA <| rl Z <| AF <| AO <| AG ?_
  cases ah
  exact er Z Le.rfl
 refine rs AA <| rn 1 Z <| bq ai fun a8 k aj => sx Z (AM (YO _ _ k) (.inl Z) Z Z Z <| rl Z <| cd Z aj (fun ak => ?_) (fun al => ?_))
 .refine rs AA <| rl Z <| AF <| AO <| AG ?_
  cases ak
  exact er Z Le.rfl
 refine AE <| Ac <| AC <| rs AA <| rl Z <| AF ?_
 cases al
 exact er Z Le.rfl
noncomputable def HM (a : AK) : Option Bool :=
 (((Lj a).bind fun d => bif d then (JL a).bind fun c => some (c == 0) else some false : Option (Bool))).bind fun (b : Bool) => some b
theorem PL (b : AK) (r : Bool) (h : HM b = some r) : Az Tryz.prog 35 [.agg (AV b)] (· = .bool r) := by
 refine fn AA Tryz.func35 Z Z 10 Z [.tmp 2] Z [(0, .p (.agg (AV b)))] Z Z fun A hA => ?_
 unfold HM at h
 refine rs AA <| rl Z <| jb (fun a : Bool => ⟨10, [(2, lb a)], [], 0⟩) h (fun a k => ?_) (fun a j => ?_)
 .refine rg AA <| rn 1 Z <| bq k fun m d e => sx Z (AM (ZO _ _ d) (.inl Z) Z Z Z <| rn 1 Z <| gs 5 e Z Z Z (fun f => ?_) (fun i => ?_))
  .exact rn 1 Z <| bq f fun l c g => sx Z (AM (XM _ _ c) (.inl Z) Z Z Z <| rl Z <| AL g (wf hA [] Z Z Z))
  exact rl Z <| AL i (wf hA [] Z Z Z)
 refine AF ?_
 have hr := Option.some.inj j; subst hr
 exact er Z Le.rfl
noncomputable def Ej (a : Int) : Option Bool :=
 ((bif decide (97 <= a) then bif decide (a <= 122) then some true else bif decide (65 <= a) then some (decide (a <= 90)) else some false else bif decide (65 <= a) then some (decide (a <= 90)) else some false : Option (Bool))).bind fun (b : Bool) => some b
theorem OZ (b : Int) (r : Bool) (h : Ej b = some r) : Az Tryz.prog 156 [.int .u8 b] (· = .bool r) := by
 refine fn AA Tryz.func156 Z Z 17 Z [.tmp 2] Z [(0, .p (.int .u8 b))] Z Z fun A hA => ?_
 unfold Ej at h
 refine rs AA <| rl Z <| jb (fun a : Bool => ⟨17, [(2, lb a)], [], 0⟩) h (fun a c => ?_) (fun a m => ?_)
 .refine rg AA <| rn 3 Z <| gs 5 c Z Z Z (fun d => ?_) (fun j => ?_)
  .refine rn 4 Z <| gs 9 d Z Z Z (fun e => ?_) (fun f => ?_)
   .exact rl Z <| AL e (wf hA [] Z Z Z)
   refine rn 3 Z <| gs 12 f Z Z Z (fun g => ?_) (fun i => ?_)
   .exact rl Z <| AL g (wf hA [] Z Z Z)
   exact rl Z <| AL i (wf hA [] Z Z Z)
  refine rn 7 Z <| gs 12 j Z Z Z (fun k => ?_) (fun l => ?_)
  .exact rl Z <| AL k (wf hA [] Z Z Z)
  exact rl Z <| AL l (wf hA [] Z Z Z)
 refine AF ?_
 have hr := Option.some.inj m; subst hr
 exact er Z Le.rfl
noncomputable def Cr (b : ByteArray) (a : Int) : Option (Int ⊕ Bool) :=
 bif decide (a < (b.size : Int)) then (((Kn b a).bind fun d => (Ej (d.toNat : Int)).bind fun e => bif (!e) then (Kn b a).bind fun f => bif decide ((f.toNat : Int) < 48) then some true else (Kn b a).bind fun g => some (decide (57 < (g.toNat : Int))) else some false : Option (Bool))).bind fun (c : Bool) => bif c then some (.inr false) else some (.inl (AN (a + 1))) else some (.inr true)
noncomputable def B9 (a : ByteArray) : Option Bool :=
 ((bif (a.toList == ByteArray.empty.toList) then some true else bif decide (8 < (a.size : Int)) then some true else (Kn a 0).bind fun c => (Ej (c.toNat : Int)).bind fun d => some (!d) : Option (Bool))).bind fun (b : Bool) => bif b then some false else AQ (Cr a) 1
theorem IF (b : ByteArray) (r : Bool) (h : B9 b = some r) : Az Tryz.prog 125 [.str b] (· = .bool r) := by
 refine fn AA Tryz.func125 Z Z 40 Z [.tmp 2] Z [(0, .p (.str b))] Z Z fun A hA => ?_
 unfold B9 at h
 refine rs AA <| rl Z <| AB <| jb (fun d : Bool => ⟨40, [(0, .p (.str b)), (16, lb d)], [], 0⟩) h (fun d n => ?_) (fun d x => ?_)
 .refine rg AA <| rn 3 Z <| gs 6 n Z Z Z (fun o => ?_) (fun q => ?_)
  .exact rl Z <| AL o (wf hA [] Z Z Z)
  refine rn 5 Z <| gs 11 q Z Z Z (fun s => ?_) (fun t => ?_)
  .exact rl Z <| AL s (wf hA [] Z Z Z)
  exact rn 1 Z <| bq t fun au g v => sx Z (O7 g Z Z Z <| bq v fun av i w => sx Z (AM (OZ _ _ i) (.inl Z) Z Z Z <| rl Z <| AL w (wf hA [] Z Z Z)))
 refine cd Z x (fun z => ?_) (fun ah => ?_)
 .refine rs AA <| rl Z <| AF <| AG ?_
  cases z
  exact er Z Le.rfl
 refine AE <| AC <| AB <| rs AA <| rl Z <| AH ?_
 apply lp (a := r) (fun c : Int => ⟨40, [(0, .p (.str b)), (3, li c)], [], 0⟩) ah
 . exact wf hA [] Z Z Z
 intro c ar f
 unfold Cr at f
 refine AB <| rs AA <| rl Z <| cd Z f (fun u => ?_) (fun an => ?_)
 .refine AE <| AC <| AB <| AH <| jb (fun e : Bool => ⟨40, [(0, .p (.str b)), (3, li c), (39, lb e)], [], 0⟩) u (fun e y => ?_) (fun e aj => ?_)
  .refine rg AA <| rn 2 Z <| bq y fun aw j aa => sx Z (O7 j Z Z Z <| bq aa fun ax k ab => sx Z (AM (OZ _ _ k) (.inl Z) Z Z Z <| rn 2 Z <| gs 28 ab Z Z Z (fun ac => ?_) (fun ai => ?_)))
   .refine rn 2 Z <| bq ac fun ay l ad => sx Z (O7 l Z Z Z <| rn 2 Z <| gs 33 ad Z Z Z (fun ae => ?_) (fun af => ?_))
    .exact rl Z <| AL ae (wf hA [] Z Z Z)
    exact rn 2 Z <| bq af fun az m ag => sx Z (O7 m Z Z Z <| rl Z <| AL ag (wf hA [] Z Z Z))
   exact rl Z <| AL ai (wf hA [] Z Z Z)
  refine cd Z aj (fun ak => ?_) (fun am => ?_)
  .refine rs AA <| rl Z <| AF <| AO <| AG <| A3 ak fun ap al => AO <| AG ?_
   cases al
   exact er Z Le.rfl
  exact AE <| Ac <| AC <| rg AA <| rl Z <| Ar am (wf hA [] Z Z Z)
 refine AU <| AX <| BK an fun aq ao => An <| AC <| rs AA <| rl Z <| AF ?_
 cases ao
 exact er Z Le.rfl
noncomputable def FB (a : Int) : Option Int :=
 bif (a == 1) then some 2 else bif (a == 2) then some 3 else bif (a == 3) then some 4 else bif (a == 4) then some 1 else some 0
theorem J5 (a : Int) (r : Int) (h : FB a = some r) : Az Tryz.prog 158 [.int .i64 a] (· = .int .i64 r) := by
 refine fn AA Tryz.func158 Z Z 12 Z [.tmp 2] Z [(0, .p (.int .i64 a))] Z Z fun A hA => ?_
 unfold FB at h
 refine rs AA <| rl Z <| AB <| rs AA <| rl Z <| AH <| rs AA <| rl Z <| cd Z h (fun j => ?_) (fun b => ?_)
 .refine rs AA <| rl Z <| AF <| AO <| AG ?_
  cases j
  exact er Z Le.rfl
 refine rs AA <| rl Z <| cd Z b (fun c => ?_) (fun d => ?_)
 .refine rs AA <| rl Z <| AF <| AO <| AG ?_
  cases c
  exact er Z Le.rfl
 refine rs AA <| rl Z <| cd Z d (fun e => ?_) (fun f => ?_)
 .refine rs AA <| rl Z <| AF <| AO <| AG ?_
  cases e
  exact er Z Le.rfl
 refine rs AA <| rl Z <| cd Z f (fun g => ?_) (fun i => ?_)
 .refine rs AA <| rl Z <| AF <| AO <| AG ?_
  cases g
  exact er Z Le.rfl
 refine AE <| Ac <| AC <| rs AA <| rl Z <| AF ?_
 cases i
 exact er Z Le.rfl
noncomputable def C7 (b : AK) (a : Int) : Option (Int ⊕ Bool) :=
 bif decide (a < (b.lines.length : Int)) then (AY b.lines a).bind fun c => (B9 c.name).bind fun d => bif (!d) then some (.inr false) else some (.inl (AN (a + 1))) else some (.inr true)
noncomputable def C8 (b : AK) (a : Int) : Option (Int ⊕ Bool) :=
 bif decide (a < (b.signals.length : Int)) then (AY b.signals a).bind fun c => (B9 c.name).bind fun d => bif (!d) then some (.inr false) else some (.inl (AN (a + 1))) else (AQ (C7 b) 0).map .inr
noncomputable def D2 (c : AK) (b : Int) : Option (Int ⊕ Bool) :=
 bif decide (b < (c.elems.length : Int)) then D9 (((AY c.elems b).bind fun a => (((B9 a.name).bind fun f => bif (!f) then some true else (FB a.kind).bind fun g => some (g == 0) : Option (Bool))).bind fun (d : Bool) => bif d then some (.inr (.inr false)) else bif (a.kind == 4) then bif (a.length != 0) then some (.inr (.inr false)) else some (.inl ()) else ((bif decide (a.length < 1) then some true else some (decide (4000 < a.length)) : Option (Bool))).bind fun (e : Bool) => bif e then some (.inr (.inr false)) else some (.inl ()) : Option (Unit ⊕ (Int ⊕ Bool)))) fun (h : Unit) => some (.inl (AN (b + 1))) else (AQ (C8 c) 0).map .inr
noncomputable def Fd (a : AK) : Option Bool :=
 ((bif decide (a.top < 1) then some true else bif decide (60 < a.top) then some true else bif decide (a.brake < 1) then some true else bif decide (10 < a.brake) then some true else bif decide (a.margin < 1) then some true else bif decide (4000 < a.margin) then some true else bif decide (a.throw < 1) then some true else bif decide (20 < a.throw) then some true else some ((a.elems.length : Int) == 0) : Option (Bool))).bind fun (b : Bool) => bif b then some false else AQ (D2 a) 0
theorem SU (b : AK) (r : Bool) (h : Fd b = some r) : Az Tryz.prog 127 [.agg (AV b)] (· = .bool r) := by
 refine fn AA Tryz.func127 Z Z 112 Z [.tmp 2] Z [(0, .p (.agg (AV b)))] Z Z fun A hA => ?_
 unfold Fd at h
 refine rs AA <| rl Z <| sc <| AB <| jb (fun d : Bool => ⟨112, [(1, .lpb 0 0), (52, lb d)], [(0, bx (AV b))], 1⟩) h (fun d z => ?_) (fun d bm => ?_)
 .refine rg AA <| rn 4 Z <| gs 12 z Z Z Z (fun aa => ?_) (fun ad => ?_)
  .exact rl Z <| AL aa (wf hA [(0, 0)] Z Z Z)
  refine rn 5 Z <| gs 17 ad Z Z Z (fun ak => ?_) (fun ar => ?_)
  .exact rl Z <| AL ak (wf hA [(0, 0)] Z Z Z)
  refine rn 5 Z <| gs 22 ar Z Z Z (fun az => ?_) (fun a8 => ?_)
  .exact rl Z <| AL az (wf hA [(0, 0)] Z Z Z)
  refine rn 5 Z <| gs 27 a8 Z Z Z (fun bb => ?_) (fun bc => ?_)
  .exact rl Z <| AL bb (wf hA [(0, 0)] Z Z Z)
  refine rn 5 Z <| gs 32 bc Z Z Z (fun be => ?_) (fun bf => ?_)
  .exact rl Z <| AL be (wf hA [(0, 0)] Z Z Z)
  refine rn 5 Z <| gs 37 bf Z Z Z (fun bg => ?_) (fun bh => ?_)
  .exact rl Z <| AL bg (wf hA [(0, 0)] Z Z Z)
  refine rn 5 Z <| gs 42 bh Z Z Z (fun bi => ?_) (fun bj => ?_)
  .exact rl Z <| AL bi (wf hA [(0, 0)] Z Z Z)
  refine rn 5 Z <| gs 47 bj Z Z Z (fun bk => ?_) (fun bl => ?_)
  .exact rl Z <| AL bk (wf hA [(0, 0)] Z Z Z)
  exact rn 2 Z <| sx Z (Ae Z Z <| rl Z <| AL bl (wf hA [(0, 0)] Z Z Z))
 refine cd Z bm (fun bn => ?_) (fun bo => ?_)
 .refine rs AA <| rl Z <| AF <| AG <| I6 ?_
  cases bn
  exact er Z Le.rfl
 refine AE <| AC <| AB <| KH <| AC <| AB <| rs AA <| rn 2 Z <| sx Z (Ae Z Z <| rl Z <| AH ?_)
 apply lp (a := r) (fun c : Int => ⟨112, [(1, .lpb 0 0), (54, ls 3 CC b.elems), (55, li (b.elems.length : Int)), (56, li c)], [(0, bx (AV b))], 1⟩) bo
 . exact wf hA [(0, 0)] Z Z Z
 intro c o g
 unfold D2 at g
 refine rs AA <| rl Z <| AB <| cd Z g (fun y => ?_) (fun a9 => ?_)
 .refine AE <| AC ?_
  apply jn (a := o) (fun b8 : Unit => ⟨112, [(1, .lpb 0 0), (54, ls 3 CC b.elems), (55, li (b.elems.length : Int)), (56, li c)], [(0, bx (AV b))], 1⟩) y
  .intro ck ab
   refine AH <| rs AA <| bq ab fun b9 q ac => sx Z (Aj q Z Z Z <| rl Z <| AH <| jb (fun e : Bool => ⟨112, [(1, .lpb 0 0), (4, .lpb 1 0), (54, ls 3 CC b.elems), (55, li (b.elems.length : Int)), (56, li c), (60, lb e)], [(0, bx (AV b)), (1, bx (CC b9))], 2⟩) ac (fun e ae => ?_) (fun e aj => ?_))
   .refine rg AA <| rn 2 Z <| bq ae fun cn s af => sx Z (AM (IF _ _ s) (.inl Z) Z Z Z <| rn 2 Z <| gs 65 af Z Z Z (fun ag => ?_) (fun ah => ?_))
    .exact rl Z <| AL ag (wf hA [(0, 0), (1, 1)] Z Z Z)
    exact rn 2 Z <| bq ah fun co t ai => sx Z (AM (J5 _ _ t) (.inl Z) Z Z Z <| rl Z <| AL ai (wf hA [(0, 0), (1, 1)] Z Z Z))
   refine cd Z aj (fun al => ?_) (fun ao => ?_)
   .refine rs AA <| rl Z <| AF <| AO <| AO <| A3 al fun ca am => A3 am fun cb an => AO <| AG <| I6 ?_
    cases an
    exact er Z Le.rfl
   refine rs AA <| rl Z <| cd Z ao (fun ap => ?_) (fun ax => ?_)
   .refine AB <| rs AA <| rl Z <| cd Z ap (fun aq => ?_) (fun aw => ?_)
    .refine rs AA <| rl Z <| AF <| AG <| AO <| AO <| A3 aq fun cc au => A3 au fun ce av => AO <| AG <| I6 ?_
     cases av
     exact er Z Le.rfl
    exact AE <| AC <| AU <| L7 Z <| An <| Ar aw (wf hA [(0, 0)] Z Z Z)
   refine jb (fun f : Bool => ⟨112, [(1, .lpb 0 0), (54, ls 3 CC b.elems), (55, li (b.elems.length : Int)), (56, li c), (78, lb f)], [(0, bx (AV b))], 1⟩) ax (fun f ay => ?_) (fun f a2 => ?_)
   .refine rg AA <| rn 4 Z <| gs 82 ay Z Z Z (fun a0 => ?_) (fun a1 => ?_)
    .exact rl Z <| AL a0 (wf hA [(0, 0)] Z Z Z)
    exact rl Z <| AL a1 (wf hA [(0, 0)] Z Z Z)
   refine cd Z a2 (fun a3 => ?_) (fun a6 => ?_)
   .refine rs AA <| rl Z <| AF <| AO <| AO <| A3 a3 fun cf a4 => A3 a4 fun cg a5 => AO <| AG <| I6 ?_
    cases a5
    exact er Z Le.rfl
   exact AE <| Ac <| Ac <| Ar a6 (wf hA [(0, 0)] Z Z Z)
  intro b8 a7
  exact rg AA <| rl Z <| Ar a7 (wf hA [(0, 0)] Z Z Z)
 refine AU <| AX <| CF a9 fun m ba => An <| AC <| AB <| rs AA <| rn 2 Z <| sx Z (Ae Z Z <| rl Z <| AH ?_)
 apply lp (a := m) (fun k : Int => ⟨112, [(1, .lpb 0 0), (89, ls 4 BW b.signals), (90, li (b.signals.length : Int)), (91, li k)], [(0, bx (AV b))], 1⟩) ba
 . exact wf hA [(0, 0)] Z Z Z
 intro k cl i
 unfold C8 at i
 refine rs AA <| rl Z <| AB <| cd Z i (fun bp => ?_) (fun bw => ?_)
 .refine AE <| AC <| AB <| AH <| rs AA <| bq bp fun cp u br => sx Z (Aj u Z Z Z <| rl Z <| rs AA <| rn 2 Z <| bq br fun cq v bs => sx Z (AM (IF _ _ v) (.inl Z) Z Z Z <| rl Z <| cd Z bs (fun bt => ?_) (fun bv => ?_)))
  .refine rs AA <| rl Z <| AF <| AO <| AG <| A3 bt fun ch bu => AO <| AG <| I6 ?_
   cases bu
   exact er Z Le.rfl
  exact AE <| Ac <| AC <| rg AA <| rl Z <| Ar bv (wf hA [(0, 0)] Z Z Z)
 refine AU <| AX <| CF bw fun n bz => An <| AC <| AB <| rs AA <| rn 2 Z <| sx Z (Ae Z Z <| rl Z <| AH ?_)
 apply lp (a := n) (fun l : Int => ⟨112, [(101, ls 2 Bg b.lines), (102, li (b.lines.length : Int)), (103, li l)], [], 0⟩) bz
 . exact wf hA [] Z Z Z
 intro l cm j
 unfold C7 at j
 refine rs AA <| rl Z <| AB <| cd Z j (fun b0 => ?_) (fun b6 => ?_)
 .refine AE <| AC <| AB <| AH <| rs AA <| bq b0 fun cr w b1 => sx Z (Aj w Z Z Z <| rl Z <| rs AA <| rn 2 Z <| bq b1 fun cs x b2 => sx Z (AM (IF _ _ x) (.inl Z) Z Z Z <| rl Z <| cd Z b2 (fun b3 => ?_) (fun b5 => ?_)))
  .refine rs AA <| rl Z <| AF <| AO <| AG <| A3 b3 fun ci b4 => AO <| AG <| I6 ?_
   cases b4
   exact er Z Le.rfl
  exact AE <| Ac <| AC <| rg AA <| rl Z <| Ar b5 (wf hA [] Z Z Z)
 refine AU <| AX <| BK b6 fun cj b7 => An <| AC <| rs AA <| rl Z <| AF <| I6 ?_
 cases b7
 exact er Z Le.rfl
end Go.E
/- Plain functions, and walks in step with them. Written by a program (gen.py). No condition. -/
set_option maxRecDepth 100000
set_option maxHeartbeats 1000000
namespace Go.E
open Go Go.RowKit Go.Proofs
noncomputable def Fe (a : Int) (b : AK) : Option ByteArray :=
 (AY b.elems a).bind fun c => some c.name
theorem NB (a : Int) (b : AK) (r : ByteArray) (h : Fe a b = some r) : Az Tryz.prog 129 [.int .i64 a, .place (AV b) 0] (· = .str r) := by
 refine fn AA Tryz.func129 Z Z 10 Z [.tmp 3] Z [(0, .p (.int .i64 a)), (1, .p (.place (AV b) 0))] Z Z fun A hA => ?_
 unfold Fe at h
 refine rs AA <| rl Z <| rs AA <| rn 3 Z <| bq h fun e c d => sx Z (Aj c Z Z Z <| rl Z <| AF ?_)
 cases d
 exact er Z Le.rfl
noncomputable def Ff (a : Int) (b : AK) : Option ByteArray :=
 (AY b.signals a).bind fun c => some c.name
theorem NC (a : Int) (b : AK) (r : ByteArray) (h : Ff a b = some r) : Az Tryz.prog 130 [.int .i64 a, .place (AV b) 0] (· = .str r) := by
 refine fn AA Tryz.func130 Z Z 10 Z [.tmp 3] Z [(0, .p (.int .i64 a)), (1, .p (.place (AV b) 0))] Z Z fun A hA => ?_
 unfold Ff at h
 refine rs AA <| rl Z <| rs AA <| rn 3 Z <| bq h fun e c d => sx Z (Aj c Z Z Z <| rl Z <| AF ?_)
 cases d
 exact er Z Le.rfl
noncomputable def Fg (a : Int) (b : AK) : Option ByteArray :=
 (AY b.lines a).bind fun c => some c.name
theorem ND (a : Int) (b : AK) (r : ByteArray) (h : Fg a b = some r) : Az Tryz.prog 131 [.int .i64 a, .place (AV b) 0] (· = .str r) := by
 refine fn AA Tryz.func131 Z Z 10 Z [.tmp 3] Z [(0, .p (.int .i64 a)), (1, .p (.place (AV b) 0))] Z Z fun A hA => ?_
 unfold Fg at h
 refine rs AA <| rl Z <| rs AA <| rn 3 Z <| bq h fun e c d => sx Z (Aj c Z Z Z <| rl Z <| AF ?_)
 cases d
 exact er Z Le.rfl
noncomputable def Gg (b : AK) (a : AI) : Option Bool :=
 ((bif decide (0 <= a.elem) then bif decide (a.elem < (b.elems.length : Int)) then bif decide (0 <= a.fin) then (AY b.elems a.elem).bind fun d => (FB d.kind).bind fun e => some (decide (a.fin < e)) else some false else some false else some false : Option (Bool))).bind fun (c : Bool) => some c
theorem Md (b : AK) (c : AI) (r : Bool) (h : Gg b c = some r) : Az Tryz.prog 159 [.agg (AV b), .agg (AT c)] (· = .bool r) := by
 refine fn AA Tryz.func159 Z Z 34 Z [.tmp 4] Z [(0, .p (.agg (AV b))), (1, .p (.agg (AT c)))] Z Z fun A hA => ?_
 unfold Gg at h
 refine rs AA <| rl Z <| jb (fun a : Bool => ⟨34, [(4, lb a)], [], 0⟩) h (fun a f => ?_) (fun a q => ?_)
 .refine B3 AA mixed [0, 1, 2, 3, 4, 5, 6, 7, 8, 9, 10, 11, 12, 13, 14, 15, 16, 17, 18, 19, 20, 21, 22, 23, 24, 25, 26, 27, 28, 29] 30 (by kernel_rfl) Z Z Z ?_
  refine Av 4 Z <| FF 8 f Z Z Z (fun g => ?_) (fun o => ?_)
  .refine Av 4 Z <| Au Z (KT Z Z <| Av 3 Z <| FF 16 g Z Z Z (fun i => ?_) (fun n => ?_))
   .refine Av 5 Z <| FF 21 i Z Z Z (fun j => ?_) (fun m => ?_)
    .exact Av 6 Z <| bq j fun s d k => Au Z (Am Z (Aj d Z Z Z <| Av 2 Z <| bq k fun t e l => Au Z (A7 (J5 _ _ e) (.inl Z) Z Z Z <| BN Z <| AL l (wf hA [] Z Z Z))))
    exact BN Z <| AL m (wf hA [] Z Z Z)
   exact BN Z <| AL n (wf hA [] Z Z Z)
  exact BN Z <| AL o (wf hA [] Z Z Z)
 refine AF ?_
 have hr := Option.some.inj q; subst hr
 exact er Z Le.rfl
noncomputable def DQ (c : AK) (b : (Int × (List (AI × AI)))) (a : Int) : Option (Int ⊕ ((List (AI × AI)) × Bool)) :=
 bif decide (a < (c.elems.length : Int)) then D9 (((AY c.elems a).bind fun e => bif (e.kind != 4) then some (.inl ()) else ((bif (!(Ah b.2 (⟨a, 0⟩ : AI)).isSome) then some true else (AY c.elems (((Ah b.2 (⟨a, 0⟩ : AI)).getD (⟨0, 0⟩ : AI)).elem)).bind fun f => some (f.kind == 4) : Option (Bool))).bind fun (d : Bool) => bif d then some (.inr (.inr ([], false))) else some (.inl ()) : Option (Unit ⊕ (Int ⊕ ((List (AI × AI)) × Bool))))) fun (g : Unit) => some (.inl (AN (a + 1))) else some (.inr (b.2, true))
noncomputable def EZ (e : AK) (d : Int × (List (AI × AI))) : Option ((Int × (List (AI × AI))) ⊕ ((List (AI × AI)) × Bool)) :=
 bif decide (d.1 < (e.joins.length : Int)) then (AY e.joins d.1).bind fun c => ((bif (Ah d.2 c.a).isSome then some true else bif (Ah d.2 c.b).isSome then some true else bif (c.a == c.b) then some true else (Gg e c.a).bind fun g => bif (!g) then some true else (Gg e c.b).bind fun h => some (!h) : Option (Bool))).bind fun (f : Bool) => bif f then some (.inr ([], false)) else some (.inl (AN (d.1 + 1), A2 c.b c.a (A2 c.a c.b d.2))) else (AQ (DQ e d) 0).map .inr
noncomputable def GP (a : AK) : Option ((List (AI × AI)) × Bool) :=
 AQ (EZ a) (0, [])
theorem Ta (c : AK) (r : ((List (AI × AI)) × Bool)) (h : GP c = some r) : Az Tryz.prog 132 [.agg (AV c)] (· = .tup [.map (Ao (fun x => .agg (AT x)) (fun x => .agg (AT x)) r.1), .bool r.2]) := by
 refine fn AA Tryz.func132 Z Z 105 Z [.tmp 2, .tmp 3] Z [(0, .p (.agg (AV c)))] Z Z fun A hA => ?_
 unfold GP at h
 refine rs AA <| rl Z <| rs AA <| rl Z <| AB <| rs AA <| rn 2 Z <| sx Z (Ae Z Z <| rl Z <| AH ?_)
 apply lp (a := r) (fun d : (Int × (List (AI × AI))) => ⟨105, [(1, .lpb 0 0), (4, .lmap 1), (17, ls 4 C0 c.joins), (18, li (c.joins.length : Int)), (19, li d.1)], [(0, bx (AV c)), (1, .map (Ao (fun x => .agg (AT x)) (fun x => .agg (AT x)) d.2))], 2⟩) h
 . exact wf hA [(0, 0), (1, 1)] Z Z Z
 intro d bg k
 unfold EZ at k
 refine rs AA <| rl Z <| AB <| cd Z k (fun ao => ?_) (fun a7 => ?_)
 .refine AE <| AC <| AB <| AH <| rs AA <| bq ao fun e q ap => sx Z (Aj q Z Z Z <| rl Z <| rs AA <| rn 3 Z <| sx Z (J0 (et := 40) (ke := (fun x => .agg (AT x))) (ve := (fun x => .agg (AT x))) (mp := d.2) (y := e.a) (⟨0, 0⟩ : AI) CI Z Z Z Z <| rl Z <| rs AA <| rn 3 Z <| sx Z (J0 (et := 40) (ke := (fun x => .agg (AT x))) (ve := (fun x => .agg (AT x))) (mp := d.2) (y := e.b) (⟨0, 0⟩ : AI) CI Z Z Z Z <| rl Z <| AB <| jb (fun i : Bool => ⟨105, [(1, .lpb 0 0), (4, .lmap 1), (6, .lpb 2 0), (17, ls 4 C0 c.joins), (18, li (c.joins.length : Int)), (19, li d.1), (61, lb i)], [(0, bx (AV c)), (1, .map (Ao (fun x => .agg (AT x)) (fun x => .agg (AT x)) d.2)), (2, bx (C0 e))], 3⟩) ap (fun i aq => ?_) (fun i a3 => ?_))))
  .refine rg AA <| rn 2 Z <| gs 38 aq Z Z Z (fun ar => ?_) (fun au => ?_)
   .exact rl Z <| AL ar (wf hA (gi 3 []) Z Z Z)
   refine rn 3 Z <| gs 41 au Z Z Z (fun av => ?_) (fun aw => ?_)
   .exact rl Z <| AL av (wf hA (gi 3 []) Z Z Z)
   refine rn 4 Z <| sx Z (ABv (Jl e.a e.b) Z Z Z Z Z <| rn 2 Z <| gs 48 aw Z Z Z (fun ax => ?_) (fun ay => ?_))
   .exact rl Z <| AL ax (wf hA (gi 3 []) Z Z Z)
   refine rn 3 Z <| bq ay fun bj s az => sx Z (AM (Md _ _ _ s) (.inl Z) Z Z Z <| rn 3 Z <| gs 55 az Z Z Z (fun a0 => ?_) (fun a1 => ?_))
   .exact rl Z <| AL a0 (wf hA (gi 3 []) Z Z Z)
   exact rn 3 Z <| bq a1 fun bk t a2 => sx Z (AM (Md _ _ _ t) (.inl Z) Z Z Z <| rl Z <| AL a2 (wf hA (gi 3 []) Z Z Z))
  refine cd Z a3 (fun a4 => ?_) (fun a6 => ?_)
  .refine rs AA <| rl Z <| AF <| AG <| AO <| AG <| A3 a4 fun be a5 => AO <| AG ?_
   cases a5
   exact er Z (Le.tup' (.cons Le.nilm (.cons Le.rfl .nil)))
  refine AE <| AC ?_
  refine B3 AA mixed [0, 1, 2, 3, 4, 5, 6, 7, 8, 9, 10, 11] 12 (by kernel_rfl) Z Z Z ?_
  exact Av 10 Z <| Au Z (Am Z (Gq (et := 40) (ke := (fun x => .agg (AT x))) (ve := (fun x => .agg (AT x))) (mp := d.2) (y := e.a) (z := e.b) CI Z Z Z Z Z Z <| Au Z (Am Z (Gq (et := 40) (ke := (fun x => .agg (AT x))) (ve := (fun x => .agg (AT x))) (mp := A2 e.a e.b d.2) (y := e.b) (z := e.a) CI Z Z Z Z Z Z <| BN Z <| Ac <| AC <| rg AA <| rl Z <| Ar a6 (wf hA [(0, 0), (1, 1)] Z Z Z)))))
 refine AU <| AX <| CF a7 fun l a8 => An <| AC <| AB <| rs AA <| rn 2 Z <| sx Z (Ae Z Z <| rl Z <| AH ?_)
 apply lp (a := l) (fun f : Int => ⟨105, [(1, .lpb 0 0), (4, .lmap 1), (74, ls 3 CC c.elems), (75, li (c.elems.length : Int)), (76, li f)], [(0, bx (AV c)), (1, .map (Ao (fun x => .agg (AT x)) (fun x => .agg (AT x)) d.2))], 2⟩) a8
 . exact wf hA [(0, 0), (1, 1)] Z Z Z
 intro f m j
 unfold DQ at j
 refine rs AA <| rl Z <| AB <| cd Z j (fun u => ?_) (fun am => ?_)
 .refine AE <| AC ?_
  apply jn (a := m) (fun a9 : Unit => ⟨105, [(1, .lpb 0 0), (4, .lmap 1), (74, ls 3 CC c.elems), (75, li (c.elems.length : Int)), (76, li f)], [(0, bx (AV c)), (1, .map (Ao (fun x => .agg (AT x)) (fun x => .agg (AT x)) d.2))], 2⟩) u
  .intro bf v
   refine AH <| rs AA <| rn 1 Z <| bq v fun bh n w => sx Z (Aj n Z Z Z <| rl Z <| AB <| rs AA <| rl Z <| cd Z w (fun aa => ?_) (fun ab => ?_))
   .exact AU <| AX <| An <| Ar aa (wf hA [(0, 0), (1, 1)] Z Z Z)
   refine AE <| AC <| rs AA <| rn 3 Z <| sx Z (J0 (et := 40) (ke := (fun x => .agg (AT x))) (ve := (fun x => .agg (AT x))) (mp := d.2) (y := (⟨f, 0⟩ : AI)) (⟨0, 0⟩ : AI) CI Z Z Z Z <| rl Z <| jb (fun g : Bool => ⟨105, [(1, .lpb 0 0), (4, .lmap 1), (74, ls 3 CC c.elems), (75, li (c.elems.length : Int)), (76, li f), (102, lb g)], [(0, bx (AV c)), (1, .map (Ao (fun x => .agg (AT x)) (fun x => .agg (AT x)) d.2))], 2⟩) ab (fun g ac => ?_) (fun g ag => ?_))
   .refine rg AA <| rn 3 Z <| gs 93 ac Z Z Z (fun ad => ?_) (fun ae => ?_)
    .exact rl Z <| AL ad (wf hA [(0, 0), (1, 1)] Z Z Z)
    exact rn 4 Z <| bq ae fun bi o af => sx Z (Aj o Z Z Z <| rl Z <| AL af (wf hA [(0, 0), (1, 1)] Z Z Z))
   refine cd Z ag (fun ah => ?_) (fun ak => ?_)
   .refine rs AA <| rl Z <| AF <| AO <| A3 ah fun ba ai => A3 ai fun bb aj => AO <| AG ?_
    cases aj
    exact er Z (Le.tup' (.cons Le.nilm (.cons Le.rfl .nil)))
   exact AE <| Ac <| Ar ak (wf hA [(0, 0), (1, 1)] Z Z Z)
  intro a9 al
  exact rg AA <| rl Z <| Ar al (wf hA [(0, 0), (1, 1)] Z Z Z)
 refine AU <| AX <| BK am fun bc an => An <| AC <| rs AA <| rl Z <| AF ?_
 cases an
 exact er (UR Z (.cons (.one (.map Z)) (.cons (.one (.p _)) .nil))) Le.rfl
noncomputable def C9 (b : AK) (c : (Int × (List (AI × Bool)))) (a : Int) : Option (Int ⊕ Bool) :=
 bif decide (a < (b.elems.length : Int)) then (AY b.elems a).bind fun e => ((bif (e.kind == 4) then some (!((Ah c.2 (⟨a, 0⟩ : AI)).getD false)) else some false : Option (Bool))).bind fun (d : Bool) => bif d then some (.inr false) else some (.inl (AN (a + 1))) else some (.inr true)
noncomputable def D3 (b : AK) (d : (List (AI × AI))) (a : Int × (List (AI × Bool))) : Option ((Int × (List (AI × Bool))) ⊕ Bool) :=
 bif decide (a.1 < (b.signals.length : Int)) then (AY b.signals a.1).bind fun c => (((Gg b c.at_).bind fun j => bif (!j) then some true else some ((Ah a.2 c.at_).getD false) : Option (Bool))).bind fun (g : Bool) => bif g then some (.inr false) else (AY b.elems c.at_.elem).bind fun e => ((bif (e.kind != 1) then some (e.kind != 4) else some false : Option (Bool))).bind fun (h : Bool) => bif h then some (.inr false) else ((bif (!(Ah d c.at_).isSome) then some true else (AY b.elems (((Ah d c.at_).getD (⟨0, 0⟩ : AI)).elem)).bind fun i => some (i.kind == 4) : Option (Bool))).bind fun (f : Bool) => bif f then some (.inr false) else some (.inl (AN (a.1 + 1), A2 c.at_ true a.2)) else (AQ (C9 b a) 0).map .inr
noncomputable def Fh (a : AK) (b : (List (AI × AI))) : Option Bool :=
 AQ (D3 a b) (0, [])
theorem SV (b : AK) (d : (List (AI × AI))) (r : Bool) (h : Fh b d = some r) : Az Tryz.prog 133 [.agg (AV b), .map (Ao (fun x => .agg (AT x)) (fun x => .agg (AT x)) d)] (· = .bool r) := by
 refine fn AA Tryz.func133 Z Z 88 Z [.tmp 4] Z [(0, .p (.agg (AV b))), (1, .p (.map (Ao (fun x => .agg (AT x)) (fun x => .agg (AT x)) d)))] Z Z fun A hA => ?_
 unfold Fh at h
 refine rs AA <| rl Z <| rs AA <| rl Z <| AB <| rs AA <| rn 2 Z <| sx Z (Ae Z Z <| rl Z <| AH ?_)
 apply lp (a := r) (fun c : (Int × (List (AI × Bool))) => ⟨88, [(1, .p (.map (Ao (fun x => .agg (AT x)) (fun x => .agg (AT x)) d))), (2, .lpb 0 0), (5, .lmap 1), (15, ls 4 BW b.signals), (16, li (b.signals.length : Int)), (17, li c.1)], [(0, bx (AV b)), (1, .map (Ao (fun x => .agg (AT x)) .bool c.2))], 2⟩) h
 . exact wf hA [(0, 0), (1, 1)] Z Z Z
 intro c bk m
 unfold D3 at m
 refine rs AA <| rl Z <| AB <| cd Z m (fun av => ?_) (fun ag => ?_)
 .refine AE <| AC <| AB <| AH <| rs AA <| bq av fun e s aw => sx Z (Aj s Z Z Z <| rl Z <| AB <| jb (fun j : Bool => ⟨88, [(1, .p (.map (Ao (fun x => .agg (AT x)) (fun x => .agg (AT x)) d))), (2, .lpb 0 0), (5, .lmap 1), (7, .lpb 2 0), (15, ls 4 BW b.signals), (16, li (b.signals.length : Int)), (17, li c.1), (31, lb j)], [(0, bx (AV b)), (1, .map (Ao (fun x => .agg (AT x)) .bool c.2)), (2, bx (BW e))], 3⟩) aw (fun j ax => ?_) (fun j a1 => ?_))
  .refine rg AA <| rn 3 Z <| bq ax fun bn t ay => sx Z (AM (Md _ _ _ t) (.inl Z) Z Z Z <| rn 2 Z <| gs 26 ay Z Z Z (fun az => ?_) (fun a0 => ?_))
   .exact rl Z <| AL az (wf hA (gi 3 []) Z Z Z)
   exact rn 3 Z <| sx Z (K4 (et := 4) (ke := (fun x => .agg (AT x))) (ve := .bool) (mp := c.2) (y := e.at_) false CI Z Z Z Z <| rl Z <| AL a0 (wf hA (gi 3 []) Z Z Z))
  refine cd Z a1 (fun a2 => ?_) (fun a4 => ?_)
  .refine rs AA <| rl Z <| AF <| AG <| AO <| AG <| A3 a2 fun bh a3 => AO <| AG ?_
   cases a3
   exact er Z Le.rfl
  refine AE <| AC <| AB <| rs AA <| rn 5 Z <| bq a4 fun bo u a5 => sx Z (Aj u Z Z Z <| rl Z <| jb (fun k : Bool => ⟨88, [(1, .p (.map (Ao (fun x => .agg (AT x)) (fun x => .agg (AT x)) d))), (2, .lpb 0 0), (5, .lmap 1), (7, .lpb 2 0), (15, ls 4 BW b.signals), (16, li (b.signals.length : Int)), (17, li c.1), (45, lb k)], [(0, bx (AV b)), (1, .map (Ao (fun x => .agg (AT x)) .bool c.2)), (2, bx (BW e))], 3⟩) a5 (fun k a6 => ?_) (fun k a9 => ?_))
  .refine rg AA <| rn 3 Z <| gs 42 a6 Z Z Z (fun a7 => ?_) (fun a8 => ?_)
   .exact rl Z <| AL a7 (wf hA (gi 3 []) Z Z Z)
   exact rl Z <| AL a8 (wf hA (gi 3 []) Z Z Z)
  refine cd Z a9 (fun ba => ?_) (fun bc => ?_)
  .refine rs AA <| rl Z <| AF <| AG <| AO <| AG <| A3 ba fun bi bb => AO <| AG ?_
   cases bb
   exact er Z Le.rfl
  refine AE <| AC <| rs AA <| rn 3 Z <| sx Z (J0 (et := 40) (ke := (fun x => .agg (AT x))) (ve := (fun x => .agg (AT x))) (mp := d) (y := e.at_) (⟨0, 0⟩ : AI) CI Z Z Z Z <| rl Z <| AB <| jb (fun g : Bool => ⟨88, [(1, .p (.map (Ao (fun x => .agg (AT x)) (fun x => .agg (AT x)) d))), (2, .lpb 0 0), (5, .lmap 1), (7, .lpb 2 0), (15, ls 4 BW b.signals), (16, li (b.signals.length : Int)), (17, li c.1), (64, lb g)], [(0, bx (AV b)), (1, .map (Ao (fun x => .agg (AT x)) .bool c.2)), (2, bx (BW e))], 3⟩) bc (fun g v => ?_) (fun g ac => ?_))
  .refine rg AA <| rn 3 Z <| gs 55 v Z Z Z (fun w => ?_) (fun aa => ?_)
   .exact rl Z <| AL w (wf hA (gi 3 []) Z Z Z)
   exact rn 4 Z <| bq aa fun bl o ab => sx Z (Aj o Z Z Z <| rl Z <| AL ab (wf hA (gi 3 []) Z Z Z))
  refine cd Z ac (fun ad => ?_) (fun af => ?_)
  .refine rs AA <| rl Z <| AF <| AG <| AO <| AG <| A3 ad fun be ae => AO <| AG ?_
   cases ae
   exact er Z Le.rfl
  exact AE <| AC <| rg AA <| rn 3 Z <| sx Z (Gq (et := 4) (ke := (fun x => .agg (AT x))) (ve := .bool) (mp := c.2) (y := e.at_) (z := true) CI Z Z Z Z Z Z <| rl Z <| Ac <| AC <| rg AA <| rl Z <| Ar af (wf hA [(0, 0), (1, 1)] Z Z Z))
 refine AU <| AX <| CF ag fun n ah => An <| AC <| AB <| rs AA <| rn 2 Z <| sx Z (Ae Z Z <| rl Z <| AH ?_)
 apply lp (a := n) (fun f : Int => ⟨88, [(5, .lmap 0), (70, ls 3 CC b.elems), (71, li (b.elems.length : Int)), (72, li f)], [(0, .map (Ao (fun x => .agg (AT x)) .bool c.2))], 1⟩) ah
 . exact wf hA [(0, 1)] Z Z Z
 intro f bj l
 unfold C9 at l
 refine rs AA <| rl Z <| AB <| cd Z l (fun ai => ?_) (fun ar => ?_)
 .refine AE <| AC <| AB <| AH <| rs AA <| rn 1 Z <| bq ai fun bm q aj => sx Z (Aj q Z Z Z <| rl Z <| jb (fun i : Bool => ⟨88, [(5, .lmap 0), (70, ls 3 CC b.elems), (71, li (b.elems.length : Int)), (72, li f), (86, lb i)], [(0, .map (Ao (fun x => .agg (AT x)) .bool c.2))], 1⟩) aj (fun i ak => ?_) (fun i an => ?_))
  .refine rg AA <| rn 4 Z <| gs 80 ak Z Z Z (fun al => ?_) (fun am => ?_)
   .exact rn 3 Z <| sx Z (K4 (et := 4) (ke := (fun x => .agg (AT x))) (ve := .bool) (mp := c.2) (y := (⟨f, 0⟩ : AI)) false CI Z Z Z Z <| rl Z <| AL al (wf hA [(0, 0)] Z Z Z))
   exact rl Z <| AL am (wf hA [(0, 0)] Z Z Z)
  refine cd Z an (fun ao => ?_) (fun aq => ?_)
  .refine rs AA <| rl Z <| AF <| AO <| AG <| A3 ao fun bf ap => AO <| AG ?_
   cases ap
   exact er Z Le.rfl
  exact AE <| Ac <| AC <| rg AA <| rl Z <| Ar aq (wf hA [(0, 0)] Z Z Z)
 refine AU <| AX <| BK ar fun bg au => An <| AC <| rs AA <| rl Z <| AF ?_
 cases au
 exact er Z Le.rfl
noncomputable def Ek (b : (List Int)) (c : (List (AI × AI))) (a : Int × Int) : Option ((Int × Int) ⊕ Bool) :=
 bif decide (a.2 < (b.length : Int)) then (AY b (AN (a.2 - 1))).bind fun d => ((bif (!(Ah c (⟨d, a.1⟩ : AI)).isSome) then some true else (AY b a.2).bind fun f => some ((((Ah c (⟨d, a.1⟩ : AI)).getD (⟨0, 0⟩ : AI)).elem) != f) : Option (Bool))).bind fun (e : Bool) => bif e then some (.inr false) else some (.inl (AN (1 - (((Ah c (⟨d, a.1⟩ : AI)).getD (⟨0, 0⟩ : AI)).fin)), AN (a.2 + 1))) else some (.inr true)
noncomputable def Dx (b : (List Int)) (c : (List (AI × AI))) (a : Int × Int) : Option ((Int × Int) ⊕ Bool) :=
 bif decide (0 <= a.2) then (((AY b 0).bind fun d => ((bif (Ah c (⟨d, a.2⟩ : AI)).isSome then (AY b 1).bind fun g => some ((((Ah c (⟨d, a.2⟩ : AI)).getD (⟨0, 0⟩ : AI)).elem) == g) else some false : Option (Bool))).bind fun (f : Bool) => bif f then some a.2 else some a.1 : Option (Int))).bind fun (e : Int) => some (.inl (e, AN (a.2 - 1))) else (bif decide (a.1 < 0) then some false else AQ (Ek b c) (a.1, 1)).map .inr
noncomputable def JM (a : (List Int)) (b : (List (AI × AI))) : Option Bool :=
 bif decide ((a.length : Int) < 2) then some true else AQ (Dx a b) ((-1), 1)
theorem XN (c : (List Int)) (b : (List (AI × AI))) (r : Bool) (h : JM c b = some r) : Az Tryz.prog 160 [.slice 1 (c.map Ad), .map (Ao (fun x => .agg (AT x)) (fun x => .agg (AT x)) b)] (· = .bool r) := by
 refine fn AA Tryz.func160 Z Z 73 Z [.tmp 4] Z [(0, .p (.slice 1 (c.map Ad))), (1, .p (.map (Ao (fun x => .agg (AT x)) (fun x => .agg (AT x)) b)))] Z Z fun A hA => ?_
 unfold JM at h
 refine rs AA <| rl Z <| AB <| rs AA <| rn 1 Z <| sx Z (Ae Z Z <| rl Z <| cd Z h (fun ak => ?_) (fun al => ?_))
 .refine rs AA <| rl Z <| AF <| AG ?_
  cases ak
  exact er Z Le.rfl
 refine AE <| AC <| rs AA <| rl Z <| AB <| rs AA <| rl Z <| AH ?_
 apply lp (a := r) (fun d : (Int × Int) => ⟨73, [(0, ls 1 Ad c), (1, .p (.map (Ao (fun x => .agg (AT x)) (fun x => .agg (AT x)) b))), (5, li d.1), (6, li d.2)], [], 0⟩) al
 . exact wf hA [] Z Z Z
 intro d a3 k
 unfold Dx at k
 refine AB <| rs AA <| rl Z <| cd Z k (fun t => ?_) (fun ag => ?_)
 .refine AE <| AC <| jb (fun f : Int => ⟨73, [(0, ls 1 Ad c), (1, .p (.map (Ao (fun x => .agg (AT x)) (fun x => .agg (AT x)) b))), (5, li f), (6, li d.2)], [], 0⟩) t (fun f u => ?_) (fun f af => ?_)
  .refine AH <| rs AA <| rn 2 Z <| bq u fun a0 n v => sx Z (Aj n Z Z Z <| rn 3 Z <| sx Z (J0 (et := 40) (ke := (fun x => .agg (AT x))) (ve := (fun x => .agg (AT x))) (mp := b) (y := (⟨a0, d.2⟩ : AI)) (⟨0, 0⟩ : AI) CI Z Z Z Z <| rl Z <| jb (fun g : Bool => ⟨73, [(0, ls 1 Ad c), (1, .p (.map (Ao (fun x => .agg (AT x)) (fun x => .agg (AT x)) b))), (5, li d.1), (6, li d.2), (37, lb g)], [], 0⟩) v (fun g w => ?_) (fun g ac => ?_)))
   .refine B3 AA mixed [0, 1, 2, 3, 4, 5, 6, 7, 8] 9 (by kernel_rfl) Z Z Z ?_
    refine Av 2 Z <| FF 30 w Z Z Z (fun z => ?_) (fun ab => ?_)
    .exact Av 3 Z <| bq z fun a5 o aa => Au Z (Am Z (Aj o Z Z Z <| BN Z <| AL aa (wf hA [] Z Z Z)))
    exact BN Z <| AL ab (wf hA [] Z Z Z)
   refine cd Z ac (fun ad => ?_) (fun ae => ?_)
   .exact rg AA <| rl Z <| Ac <| AL ad (wf hA [] Z Z Z)
   exact AE <| Ac <| AL ae (wf hA [] Z Z Z)
  exact rg AA <| rl Z <| Ar af (wf hA [] Z Z Z)
 refine AU <| AX <| CF ag fun m ah => An <| AC <| AB <| rs AA <| rl Z <| cd Z ah (fun ai => ?_) (fun aj => ?_)
 .refine rs AA <| rl Z <| AF <| AG ?_
  cases ai
  exact er Z Le.rfl
 refine AE <| AC <| AB <| rs AA <| rl Z <| AH ?_
 apply lp (a := m) (fun e : (Int × Int) => ⟨73, [(0, ls 1 Ad c), (1, .p (.map (Ao (fun x => .agg (AT x)) (fun x => .agg (AT x)) b))), (5, li e.1), (9, li e.2)], [], 0⟩) aj
 . exact wf hA [] Z Z Z
 intro e a4 l
 unfold Ek at l
 refine AB <| rs AA <| rn 2 Z <| sx Z (Ae Z Z <| rl Z <| cd Z l (fun am => ?_) (fun ay => ?_))
 .refine AE <| AC <| AB <| AH <| rs AA <| rn 4 Z <| bq am fun j q an => sx Z (Aj q Z Z Z <| rn 3 Z <| sx Z (J0 (et := 40) (ke := (fun x => .agg (AT x))) (ve := (fun x => .agg (AT x))) (mp := b) (y := (⟨j, e.1⟩ : AI)) (⟨0, 0⟩ : AI) CI Z Z Z Z <| rl Z <| AB <| jb (fun i : Bool => ⟨73, [(0, ls 1 Ad c), (1, .p (.map (Ao (fun x => .agg (AT x)) (fun x => .agg (AT x)) b))), (9, li e.2), (10, .lpb 0 0), (69, lb i)], [(0, .box [li (((Ah b (⟨j, e.1⟩ : AI)).getD (⟨0, 0⟩ : AI)).elem), li (((Ah b (⟨j, e.1⟩ : AI)).getD (⟨0, 0⟩ : AI)).fin)])], 1⟩) an (fun i ao => ?_) (fun i au => ?_)))
  .refine B3 AA mixed [0, 1, 2, 3, 4, 5, 6, 7, 8, 9, 10] 11 (by kernel_rfl) Z Z Z ?_
   refine Av 3 Z <| FF 61 ao Z Z Z (fun ap => ?_) (fun aq => ?_)
   .exact BN Z <| AL ap (wf hA [(0, 0)] Z Z Z)
   exact Av 4 Z <| bq aq fun a6 s ar => Au Z (Am Z (Aj s Z Z Z <| BN Z <| AL ar (wf hA [(0, 0)] Z Z Z)))
  refine cd Z au (fun av => ?_) (fun ax => ?_)
  .refine rs AA <| rl Z <| AF <| AG <| AO <| AG <| A3 av fun a1 aw => AO <| AG ?_
   cases aw
   exact er Z Le.rfl
  exact AE <| AC <| rg AA <| rl Z <| Ac <| AC <| rg AA <| rl Z <| Ar ax (wf hA [] Z Z Z)
 refine AU <| AX <| BK ay fun a2 az => An <| AC <| rs AA <| rl Z <| AF ?_
 cases az
 exact er Z Le.rfl
noncomputable def Ex (d : AK) (g : (List (AI × AI))) (e : (Int × (List (Int × Bool)))) (c : C2) (a : Int × (List (Int × Bool))) : Option ((Int × (List (Int × Bool))) ⊕ ((Int × (List (Int × Bool))) ⊕ Bool)) :=
 bif decide (a.1 < (c.elems.length : Int)) then (AY c.elems a.1).bind fun b => ((bif decide (b < 0) then some true else bif decide ((d.elems.length : Int) <= b) then some true else (AY d.elems b).bind fun h => bif (h.kind != 1) then some true else some ((Ah a.2 b).getD false) : Option (Bool))).bind fun (f : Bool) => bif f then some (.inr (.inr false)) else some (.inl (AN (a.1 + 1), A2 b true a.2)) else ((JM c.elems g).bind fun i => bif (!i) then some (.inr false) else some (.inl (AN (e.1 + 1), a.2))).map .inr
noncomputable def Ey (b : AK) (d : (List (AI × AI))) (a : Int × (List (Int × Bool))) : Option ((Int × (List (Int × Bool))) ⊕ Bool) :=
 bif decide (a.1 < (b.lines.length : Int)) then (AY b.lines a.1).bind fun c => bif ((c.elems.length : Int) == 0) then some (.inr false) else AQ (Ex b d a c) (0, a.2) else some (.inr true)
noncomputable def HP (a : AK) (b : (List (AI × AI))) : Option Bool :=
 AQ (Ey a b) (0, [])
theorem Uf (b : AK) (e : (List (AI × AI))) (r : Bool) (h : HP b e = some r) : Az Tryz.prog 134 [.agg (AV b), .map (Ao (fun x => .agg (AT x)) (fun x => .agg (AT x)) e)] (· = .bool r) := by
 refine fn AA Tryz.func134 Z Z 61 Z [.tmp 4] Z [(0, .p (.agg (AV b))), (1, .p (.map (Ao (fun x => .agg (AT x)) (fun x => .agg (AT x)) e)))] Z Z fun A hA => ?_
 unfold HP at h
 refine rs AA <| rl Z <| rs AA <| rl Z <| AB <| rs AA <| rn 2 Z <| sx Z (Ae Z Z <| rl Z <| AH ?_)
 apply lp (a := r) (fun f : (Int × (List (Int × Bool))) => ⟨61, [(1, .p (.map (Ao (fun x => .agg (AT x)) (fun x => .agg (AT x)) e))), (2, .lpb 0 0), (5, .lmap 1), (12, ls 2 Bg b.lines), (13, li (b.lines.length : Int)), (14, li f.1)], [(0, bx (AV b)), (1, .map (Ao (.int .i64) .bool f.2))], 2⟩) h
 . exact wf hA [(0, 0), (1, 1)] Z Z Z
 intro f l j
 unfold Ey at j
 refine rs AA <| rl Z <| AB <| cd Z j (fun s => ?_) (fun ax => ?_)
 .refine AE <| AC <| AB <| AH <| rs AA <| bq s fun c m t => sx Z (Aj m Z Z Z <| rl Z <| AB <| rs AA <| rn 2 Z <| sx Z (Ae Z Z <| rl Z <| cd Z t (fun u => ?_) (fun w => ?_)))
  .refine rs AA <| rl Z <| AF <| AG <| AO <| AG <| A3 u fun az v => AO <| AG ?_
   cases v
   exact er Z Le.rfl
  refine AE <| AC <| AB <| rs AA <| rn 2 Z <| sx Z (Ae Z Z <| rl Z <| AH ?_)
  apply lp (a := l) (fun d : (Int × (List (Int × Bool))) => ⟨61, [(1, .p (.map (Ao (fun x => .agg (AT x)) (fun x => .agg (AT x)) e))), (2, .lpb 0 0), (5, .lmap 1), (7, .lpb 2 0), (12, ls 2 Bg b.lines), (13, li (b.lines.length : Int)), (14, li f.1), (23, ls 1 Ad c.elems), (24, li (c.elems.length : Int)), (25, li d.1)], [(0, bx (AV b)), (1, .map (Ao (.int .i64) .bool d.2)), (2, .box [.p (.str c.name), ls 1 Ad c.elems])], 3⟩) w
  . exact wf hA (gi 3 []) Z Z Z
  intro d a5 k
  unfold Ex at k
  refine rs AA <| rl Z <| AB <| cd Z k (fun aa => ?_) (fun ap => ?_)
  .refine AE <| AC <| AB <| AH <| rs AA <| bq aa fun i n ab => sx Z (Aj n Z Z Z <| rl Z <| AB <| jb (fun g : Bool => ⟨61, [(1, .p (.map (Ao (fun x => .agg (AT x)) (fun x => .agg (AT x)) e))), (2, .lpb 0 0), (5, .lmap 1), (7, .lpb 2 0), (9, li i), (12, ls 2 Bg b.lines), (13, li (b.lines.length : Int)), (14, li f.1), (23, ls 1 Ad c.elems), (24, li (c.elems.length : Int)), (25, li d.1), (51, lb g)], [(0, bx (AV b)), (1, .map (Ao (.int .i64) .bool d.2)), (2, .box [.p (.str c.name), ls 1 Ad c.elems])], 3⟩) ab (fun g ac => ?_) (fun g ak => ?_))
   .refine rg AA <| rn 3 Z <| gs 31 ac Z Z Z (fun ad => ?_) (fun ae => ?_)
    .exact rl Z <| AL ad (wf hA (gi 3 []) Z Z Z)
    refine rn 3 Z <| sx Z (Ae Z Z <| rn 3 Z <| gs 38 ae Z Z Z (fun af => ?_) (fun ag => ?_))
    .exact rl Z <| AL af (wf hA (gi 3 []) Z Z Z)
    refine rn 3 Z <| bq ag fun a6 o ah => sx Z (Aj o Z Z Z <| rn 5 Z <| gs 47 ah Z Z Z (fun ai => ?_) (fun aj => ?_))
    .exact rl Z <| AL ai (wf hA (gi 3 []) Z Z Z)
    exact rn 2 Z <| sx Z (K4 (et := 4) (ke := (.int .i64)) (ve := .bool) (mp := d.2) (y := i) false GJ Z Z Z Z <| rl Z <| AL aj (wf hA (gi 3 []) Z Z Z))
   refine cd Z ak (fun al => ?_) (fun ao => ?_)
   .refine rs AA <| rl Z <| AF <| AG <| AO <| AG <| A3 al fun a0 am => AO <| AG <| AO <| AG <| A3 am fun a1 an => AO <| AG ?_
    cases an
    exact er Z Le.rfl
   exact AE <| AC <| rg AA <| rn 2 Z <| sx Z (Gq (et := 4) (ke := (.int .i64)) (ve := .bool) (mp := d.2) (y := i) (z := true) GJ Z Z Z Z Z Z <| rl Z <| Ac <| AC <| rg AA <| rl Z <| Ar ao (wf hA (gi 3 []) Z Z Z))
  refine AU <| AX <| CF ap fun a2 aq => An <| AC <| rs AA <| rn 3 Z <| bq aq fun a7 q ar => sx Z (AM (XN _ _ _ q) (.inl Z) Z Z Z <| rl Z <| cd Z ar (fun au => ?_) (fun aw => ?_))
  .refine rs AA <| rl Z <| AF <| AO <| AG <| A3 au fun a3 av => AO <| AG ?_
   cases av
   exact er Z Le.rfl
  exact AE <| Ac <| AC <| rg AA <| rl Z <| Ar aw (wf hA [(0, 0), (1, 1)] Z Z Z)
 refine AU <| AX <| BK ax fun a4 ay => An <| AC <| rs AA <| rl Z <| AF ?_
 cases ay
 exact er Z Le.rfl
end Go.E
