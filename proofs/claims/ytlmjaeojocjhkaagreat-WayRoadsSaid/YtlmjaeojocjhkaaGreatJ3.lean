/- Scopes, slices set against nil, functions walked where they are called (CX), slices handed back (HK). No condition. -/
import Derived.Scope
import Derived.Test.YtlmjaeojocjhkaaGreatProg
import Derived.Test.YtlmjaeojocjhkaaGreatDel
import Derived.Shelf.Sort.Plain
import Derived.Shelf.Slices.In.SortNone
import Derived.Shelf.Slices.CompactI
import Derived.Lib.RowBridge
import Derived.ScopeJumps
import Derived.Shelf.SlIterI.Nil
import Derived.Test.YtlmjaeojocjhkaaGreatJ2
set_option linter.unusedVariables false
set_option linter.unusedSimpArgs false
namespace Go.E
open Go Go.RowKit
section
variable {α : Type} [DecidableEq α]
def Ug (a b : Option α) : Option α := if a = b then a else none
theorem Xz {a b : Option α} {x : α} (h : Ug a b = some x) : a = some x /\ b = some x := by
 unfold Ug at h
 split at h
 .rename_i e; exact ⟨h, e ▸ h⟩
 cases h
def M2 {β : Type} (l : List β) (a b : Option α) : Option α := match l with
 | [] => Ug a b
 | _ :: _ => b
end
section
variable {P : Program} {A : BE} {AD : A4} {st : St}
def scD (Q : Exit -> St -> Prop) : Exit -> St -> Prop
 | .goto _, _ => False
 | e, st => Q e st
theorem sc {c : Code} {Q : Exit -> St -> Prop} (h : B5 P A c (scD Q) st) : B5 P A (.scope c) Q st := fun a w hR =>
 wp_scope_straight (wp_mono (h a w hR) fun e a' w' ⟨st', hR', q⟩ => by
  cases e <;> first | exact q.elim | exact ⟨st', hR', q⟩)
theorem JN {Q : Exit -> St -> Prop} (h : Q .ret st) : scD Q .ret st := h
theorem ABu {Q : Exit -> St -> Prop} {id : Nat} (h : Q (.exit id) st) : scD Q (.exit id) st := h
section
variable {f : St -> Prop} {hf : IM f} {nt : Nat} {sl : List (Nat × LV)} {h : AS} {c : Nat} {α Ans : Type} [DecidableEq Ans] {enc : α -> List DV} {l : List α} {d : Tmp} {t t' sz : Nat} {x y : Operand} {p q : Option Ans} {a : Ans}
theorem Kt (hh : M2 l p q = some a) (ht : SA AD t = true) (hx : BC nt sl x = .p (.slice sz (l.map enc))) (hy : BC nt sl y = .p .nils)
  (k1 : p = some a -> f ⟨nt, (d, .p (.bool true)) :: sl, h, c⟩) (k2 : q = some a -> f ⟨nt, (d, .p (.bool false)) :: sl, h, c⟩) : BB P A AD ⟨nt, sl, h, c⟩ (some d) (.binOp .eql t x y t') ⟨f, hf⟩ := by
 obtain ⟨ti, e, h1, h2⟩ := RR ht
 rw [BF (h := h) (c := c)] at hx hy
 show S0 AD .eql t _ _ _
 rw [hx, hy]
 refine AU.2 ⟨ti, h1, B7.2 ⟨e, h2, ?_⟩⟩
 intro r hr
 cases l with
 | nil =>
  obtain ⟨g1, g2⟩ := Xz hh
  cases r with
  | true => exact k1 g1
  | false => exact k2 g2
 | cons z l => rw [hr (by simp)]; exact k2 hh
end
def JO (tt : Nat -> Option TI) (rs : List ResultVar) (st : St) : Option LV :=
 match KO tt st rs with
 | some [l] => some l
 | some ls => some (.tup ls)
 | none => none
def Md : Nat -> List LV -> List (Nat × LV)
 | _, [] => []
 | n, d :: ds => (n, d) :: Md (n + 1) ds
theorem SC : ∀ (ds : List LV) (n t : Nat), AJ t (Md n ds) = if n <= t then ds[t - n]? else none
 | [], n, t => by simp [Md, AJ]
 | d :: ds, n, t => by
  simp only [Md, AJ]
  by_cases e : t = n
  .subst e; simp
  rw [if_neg e, SC ds (n + 1) t]
  by_cases h : n + 1 <= t
  .rw [if_pos h, if_pos (by omega), show t - n = t - (n + 1) + 1 by omega, List.getElem?_cons_succ]
  rw [if_neg h, if_neg (by omega)]
theorem WN (hE : BD P AD) {A : BE} {μ : Nat -> Option BS} {F : Nat -> Prop} {st : St} {a : Act} {w : World} (hs : ∀ x, Ah (Aj A μ st.heap) μ w (a.eval x) (st.eval x)) (hh : HRel A μ st.heap F w) {fn : Func} {r : LV} (h : JO AD.tt fn.results.toList st = some r) :
  ∃ v, (results fn a.tmps).run P w = .ok v w /\ Ah (Aj A μ st.heap) μ w v r := by
 unfold JO at h
 cases hr : KO AD.tt st fn.results.toList with
 | none => rw [hr] at h; cases h
 | some ls =>
  rw [hr] at h
  obtain ⟨vs, g1, g2, g3⟩ := My (P := P) hE hs hh hr
  have hrun := Mz g1
  match ls, vs, g2 with
  | [], [], _ => cases h; exact ⟨_, hrun, .tup _ _ rfl (by simp)⟩
  | [l], [v], _ => simp only [Option.some.injEq] at h; subst h; exact ⟨_, hrun, g3 0 v l rfl rfl⟩
  | l :: m :: ls, u :: v :: vs, g2 => simp only [Option.some.injEq] at h; subst h; exact ⟨_, hrun, .tup _ _ (by simpa using g2) fun i x d hx hd => g3 i x d (by simpa using hx) hd⟩
theorem XG {c : Code} {Q : Exit -> St -> Prop} (h : B5 P A c (fun e s => ∃ s', A8 A s s' /\ Q e s') st) : B5 P A c Q st := fun a w hR =>
 wp_mono (h a w hR) fun _ a' w' ⟨_, hR', s', hw, q⟩ => ⟨s', hw a' w' hR', q⟩
theorem VH (hE : BD P AD) {k : Nat} {fn : Func} {cd : Code} (hf : P.funcs[k]? = some fn) (hb : fn.body = some cd) (hn : (fn.name == "runtime.NumGoroutine") = false) (nt : Nat) (hnt : fn.ntmps = nt) (rs : List ResultVar) (hrs : fn.results.toList = rs)
  {h : AS} {ctr : Nat} {args : List LV} (hlen : args.length <= nt) {K : LV -> AS -> Nat -> Prop}
  (body : ∀ A' : BE, (∀ id, A'.μ0 id ≠ none -> id < ctr) -> B5 P A' cd (OG fun st => ∃ l, JO AD.tt rs st = some l /\ K l st.heap st.ctr) ⟨nt, Md 0 args, h, ctr⟩) : C0 P A h ctr k args K := by
 subst hnt hrs
 refine ⟨ED hf hb hn, fun μ w vs hh hsz hr => ?_⟩
 have hlt : ∀ id loc, μ id = some loc -> id < ctr := by
  intro id loc hm
  by_cases hi : id < ctr
  .exact hi
  rw [hh.fresh id (by simp only [Fr]; omega)] at hm; cases hm
 let A' : BE := ⟨w, A.O, Bq μ h, fun id => if id < ctr then μ id else none, fun b hb' => ⟨Nat.lt_of_lt_of_le (A.hO b hb').1 hh.size, by
  rintro ⟨id, o, loc, h1, h2, h3, rfl⟩
  exact (hh.base id o loc h1 h2 h3).2.1 hb'⟩⟩
 have hA' : ∀ id, A'.μ0 id ≠ none -> id < ctr := by
  intro id hid
  by_cases hi : id < ctr
  .exact hi
  simp [A', hi] at hid
 have hown : ∀ b, Aj A' μ h b ↔ Aj A μ h b := fun b => Iff.rfl
 have hh' : HRel A' μ h (Fr ctr) w := ⟨hh.obj, hh.inj, hh.fresh, fun id o loc h1 h2 h3 => ⟨(hh.base id o loc h1 h2 h3).1, (hh.base id o loc h1 h2 h3).2.1, .inr ⟨id, o, loc, h1, h2, h3, rfl⟩⟩, Nat.le_refl _, fun _ _ _ => rfl, rfl, rfl, rfl, fun id loc hm => by
  simp only [A'] at hm
  split at hm
  .exact hm
  cases hm⟩
 have hR : R A' ⟨fn.ntmps, Md 0 args, h, ctr⟩ { tmps := vs ++ Array.replicate (fn.ntmps - vs.size) undef, defers := [] } w := by
  refine ⟨⟨μ, hh', fun t ht => ?_⟩, by simp; omega, rfl⟩
  simp only [Bc, SC, Nat.zero_le, if_true, Nat.sub_zero]
  by_cases hlt' : t < args.length
  .have hv : t < vs.size := by omega
   have e : args[t]? = some args[t] := by simp [hlt']
   rw [e]
   have e2 : (vs ++ Array.replicate (fn.ntmps - vs.size) undef).getD t undef = vs[t] := by
    rw [Array.getD_eq_getD_getElem?, Array.getElem?_append_left hv]; simp [hv]
   rw [e2]
   exact hr t _ _ (by simp [hv]) e
  have e : args[t]? = none := by simp; omega
  rw [e]; exact .any _
 refine calls_of_wp hf hb (wp_mono (body A' hA' _ _ hR) ?_)
 rintro e a' w' ⟨st', ⟨⟨μ', hh2, hs⟩, hnt, hdef⟩, hq⟩
 have fin : (∃ l, JO AD.tt fn.results.toList st' = some l /\ K l st'.heap st'.ctr) -> a'.defers = [] /\ ∃ v, (results fn a'.tmps).run P w' = .ok v w' /\
   ∃ u l h' c' μ', Ending.returned v = .returned u /\ K l h' c' /\ HRel A μ' h' (Fr c') w' /\ Ah (Aj A μ' h') μ' w' u l /\ ∀ v x, Ah (Aj A μ h) μ w v x -> Ah (Aj A μ' h') μ' w' v x := by
  rintro ⟨l, h1, h2⟩
  obtain ⟨v, g1, g2⟩ := WN (P := P) hE (fun x => HI hs x) hh2 h1
  have mineof : ∀ b, b < w.heap.size -> Bq μ' st'.heap b -> Bq μ h b := by
   rintro b hb' ⟨id, o, loc, k1, k2, k3, rfl⟩
   rcases (hh2.base id o loc k1 k2 k3).2.2 with hb2 | hb2
   .exact absurd hb2 (by show ¬ w.heap.size <= _; omega)
   exact hb2
  have keepμ' : ∀ id loc, μ id = some loc -> μ' id = some loc := fun id loc hm => hh2.ext id loc (by simp only [A']; rw [if_pos (hlt id loc hm)]; exact hm)
  refine ⟨hdef, v, g1, v, l, st'.heap, st'.ctr, μ', rfl, h2, ⟨hh2.obj, hh2.inj, hh2.fresh, fun id o loc k1 k2 k3 => ⟨(hh2.base id o loc k1 k2 k3).1, (hh2.base id o loc k1 k2 k3).2.1, ?_⟩, Nat.le_trans hh.size hh2.size, fun b hb' hnf => ?_, hh2.os.trans hh.os, hh2.tape.trans hh.tape, hh2.output.trans hh.output, fun id loc hm => keepμ' id loc (hh.ext id loc hm)⟩, g2, fun v x hv => hv.mono ⟨hh2.size, fun b hb' hno => hh2.block b hb' fun hm => hno (.inr hm)⟩ (fun b hb' ho => ?_) keepμ'⟩
  .rcases (hh2.base id o loc k1 k2 k3).2.2 with hb2 | ⟨id2, o2, loc2, m1, m2, m3, m4⟩
   .exact .inl (Nat.le_trans hh.size hb2)
   rw [<- m4]; exact (hh.base id2 o2 loc2 m1 m2 m3).2.2
  .have hnm : ¬ Bq μ h b := by
    rintro ⟨id2, o2, loc2, m1, m2, m3, rfl⟩
    rcases (hh.base id2 o2 loc2 m1 m2 m3).2.2 with hb2 | hb2
    .omega
    exact hnf hb2
   rw [hh2.block b (Nat.lt_of_lt_of_le hb' hh.size) hnm]
   exact hh.block b hb' hnf
  rcases ho with ho | ho
  .exact .inl ho
  exact .inr (mineof b hb' ho)
 cases e with
 | normal => exact fin hq
 | ret => exact fin hq
 | _ => exact hq.elim
def IP (tt : Nat -> Option TI) (rs : List ResultVar) (A : BE) (L : LV) (H : AS) (C : Nat) (e : Exit) (st : St) : Prop :=
 ∃ s', A8 A st s' /\ OG (fun s => JO tt rs s = some L /\ s.heap = H /\ s.ctr = C) e s'
theorem Ca {rs : List ResultVar} {L : LV} {nt C : Nat} {sl : List (Nat × LV)} {H : AS} (hw : A8 A st ⟨nt, sl, H, C⟩) (hr : JO AD.tt rs ⟨nt, sl, H, C⟩ = some L) : IP AD.tt rs A L H C .ret st := ⟨_, hw, hr, rfl, rfl⟩
theorem Me {rs : List ResultVar} {L : LV} {nt C : Nat} {sl : List (Nat × LV)} {H : AS} (hw : A8 A st ⟨nt, sl, H, C⟩) (hr : JO AD.tt rs ⟨nt, sl, H, C⟩ = some L) : IP AD.tt rs A L H C .normal st := ⟨_, hw, hr, rfl, rfl⟩
section
variable {f : St -> Prop} {hf : IM f} {nt : Nat} {sl : List (Nat × LV)} {h : AS} {c : Nat} {σ Ans : Type}
theorem CX (hE : BD P AD) (L : σ -> LV) (H : σ -> AS) (C : Nat) {sp : Option σ} {rest : σ -> Option Ans} {a : Ans} {dst : Option Tmp} {fo : Operand} {args : Array Operand} {ts : Array TypeId} {k : Nat} {fn : Func} {cd : Code} {caps ls : List LV}
  (hh : sp.bind rest = some a) (hfun : P.funcs[k]? = some fn) (nt' : Nat) (rs : List ResultVar) (sl' : List (Nat × LV)) (hb : fn.body = some cd) (hn : (fn.name == "runtime.NumGoroutine") = false) (hnt : Nat.beq fn.ntmps nt' = true) (hrs : fn.results.toList = rs)
  (hfn : BC nt sl fo = .fn k caps) (hl : Ea nt sl args.toList some = some ls) (hlen : Nat.ble (ls ++ caps).length nt' = true) (hsl : Md 0 (ls ++ caps) = sl')
  (body : ∀ A : BE, (∀ id, A.μ0 id ≠ none -> id < c) -> ∀ t, sp = some t -> B5 P A cd (IP AD.tt rs A (L t) (H t) C) ⟨nt', sl', h, c⟩)
  (kk : ∀ t, rest t = some a -> f (match dst with | some d => ⟨nt, (d, L t) :: sl, H t, C⟩ | none => ⟨nt, sl, H t, C⟩)) : BB P A AD ⟨nt, sl, h, c⟩ dst (.call ⟨.value fo, args, ts⟩) ⟨f, hf⟩ := by
 obtain ⟨t, h1, h2⟩ := bd hh
 rw [BF (h := h) (c := c)] at hfn
 show PB _ _
 rw [hfn]
 show KQ P A h c k (args.toList.map _ ++ caps) _
 rw [I3 hl]
 subst hsl
 refine VH hE hfun hb hn nt' (Nat.eq_of_beq_eq_true hnt) rs hrs (Nat.le_of_ble_eq_true hlen) fun A' hA' => ?_
 have := XG (body A' hA' t h1)
 refine Lq this fun e s q => ?_
 have fin : (JO AD.tt rs s = some (L t) /\ s.heap = H t /\ s.ctr = C) -> ∃ l, JO AD.tt rs s = some l /\ f (St.go ⟨nt, sl, h, c⟩ dst l s.heap s.ctr) := by
  rintro ⟨q1, q2, q3⟩
  refine ⟨_, q1, ?_⟩
  rw [q2, q3, Qa]
  have := kk t h2
  cases dst <;> exact this
 cases e <;> first | exact fin q | exact q.elim
end
def SD : Nat -> List (Nat × Nat) -> Bool
 | 0, _ => true
 | n + 1, gl => match Be n gl with
  | some m => match Nat.beq n m with
   | true => SD n gl
   | false => false
  | none => false
theorem VI : ∀ {n : Nat} {gl : List (Nat × Nat)}, SD n gl = true -> ∀ i, i < n -> AJ i gl = some i
 | 0, _, _, i, h => by omega
 | n + 1, gl, hk, i, hi => by
  simp only [SD] at hk
  split at hk
  .rename_i m hm
   split at hk
   .rename_i hb
    have := Nat.eq_of_beq_eq_true hb
    subst this
    by_cases e : i = n
    .subst e; rw [<- BL]; exact hm
    exact VI hk i (by omega)
   cases hk
  cases hk
theorem LF {n : Nat} (hA : ∀ id, A.μ0 id ≠ none -> id < n) (gl : List (Nat × Nat)) (hk : SD n gl = true) : ∀ id, A.μ0 id ≠ none -> AJ id gl = some id := fun id h => VI hk id (hA id h)
theorem wj {n nt : Nat} {sl sl' : List (Nat × LV)} {h h' : AS} {c c' : Nat} (hA : ∀ id, A.μ0 id ≠ none -> id < n) (gl : List (Nat × Nat)) (hk : SD n gl = true) (ha : Xy gl sl' h' c' = true) (hs : Uc sl sl' = Ud gl sl') (hh : Ue gl h h' = Uf gl h') : A8 A ⟨nt, sl, h, c⟩ ⟨nt, sl', h', c'⟩ :=
 wk gl (LF hA gl hk) (Lk ha).1 (Lk ha).2.1 (Lk ha).2.2 (VF hs) (VG hh)
section
variable {f : St -> Prop} {hf : IM f} {nt : Nat} {sl : List (Nat × LV)} {h : AS} {c : Nat} {d : Tmp} {α : Type} {enc : α -> List DV}
theorem ABD {fo : Operand} {args : Array Operand} {ts : Array TypeId} {k e sz : Nat} {caps ls : List LV} {ds : List DV} {r : List α} (hF : HK P k ds e sz (r.map enc))
  (hs : (ls ++ caps).flatMap (EX h) = []) (hfn : BC nt sl fo = .fn k caps) (hl : Ea nt sl args.toList some = some ls) (hds : Bz h (ls ++ caps) = some ds)
  (kk : f ⟨nt, (d, .lsl c sz 0 r.length) :: sl, (c, .row e sz (r.map enc)) :: h, c + 1⟩) : BB P A AD ⟨nt, sl, h, c⟩ (some d) (.call ⟨.value fo, args, ts⟩) ⟨f, hf⟩ := by
 rw [BF (h := h) (c := c)] at hfn
 show PB _ _
 rw [hfn]
 show KQ P A h c k (args.toList.map _ ++ caps) _
 rw [I3 hl]
 refine ACl hds hF hs ?_
 rw [List.length_map]
 exact kk
theorem fnN {k : Nat} {fn : Func} {cd : Code} {ds : List DV} {e sz : Nat} {r : List α} (hen : AAk enc sz) (hf : P.funcs[k]? = some fn) (hb : fn.body = some cd) (hn : (fn.name == "runtime.NumGoroutine") = false) (nt : Nat) (hnt : Nat.beq fn.ntmps nt = true)
  (t : Nat) (hrs : fn.results.toList = [.tmp t]) (sl : List (Nat × LV)) (hsl : DA 0 ds = sl) (hlen : Nat.ble ds.length nt = true)
  (h : ∀ A : BE, (∀ id, A.μ0 id = none) -> B5 P A cd (Xs t e sz (r.map enc)) ⟨nt, sl, [], 0⟩) : HK P k ds e sz (r.map enc) := by
 subst hsl
 refine AA5 hf hb hn nt (Nat.eq_of_beq_eq_true hnt) t hrs (Nat.le_of_ble_eq_true hlen) (fun x hx => ?_) h
 obtain ⟨a, _, rfl⟩ := List.mem_map.1 hx
 exact (hen a).1
theorem erN {t e sz id n : Nat} {r : List α} (hv : BC nt sl (.tmp t) = .lsl id sz 0 n) (hl : Be id h = some (.row e sz (r.map enc))) (hn : n = r.length) : Xs t e sz (r.map enc) .ret ⟨nt, sl, h, c⟩ := by
 rw [BF (h := h) (c := c)] at hv
 rw [BL] at hl
 refine .inl ⟨id, ?_, hl⟩
 rw [hv, hn, List.length_map]
theorem ABv {t e sz : Nat} (hv : BC nt sl (.tmp t) = .p .nils) : Xs t e sz (([] : List α).map enc) .ret ⟨nt, sl, h, c⟩ := by
 rw [BF (h := h) (c := c)] at hv
 exact .inr ⟨hv, rfl⟩
end
end
end Go.E
/- Rules for single operations: arrays, division, a nil slice as an empty one. No condition. -/
namespace Go.E
open Go Go.RowKit
section
variable {P : Program} {A : BE} {AD : A4} {f : St -> Prop} {hf : IM f} {nt : Nat} {sl : List (Nat × LV)} {h : AS} {c : Nat} {d : Tmp} {α : Type} {l : List α} {t : Nat} {x i : Operand}
theorem BH {α : Type} (l : List α) (n : Int) (z : α) : (A5 l n z).length = l.length := by simp [A5]
def RD (AD : A4) (t m : Nat) : Bool := match AD.tt t with
 | some ti => match ti.sh with
  | .arr n e => match AD.tt e with
   | some te => match te.sh with
    | .struct _ | .arr _ _ => false
    | _ => Nat.beq n m && Nat.beq te.size 1
   | none => false
  | _ => false
 | none => false
theorem Sw {t m : Nat} (h : RD AD t m = true) : ∃ ti e te, AD.tt t = some ti /\ ti.sh = .arr m e /\ AD.tt e = some te /\ te.size = 1 /\ te.sh.isAgg = false := by
 unfold RD at h
 split at h
 .rename_i ti hti
  split at h
  .rename_i n e he
   split at h
   .rename_i te hte
    split at h
    .cases h
    .cases h
    rename_i k1 k2
    simp only [Bool.and_eq_true] at h
    have h1 := Nat.eq_of_beq_eq_true h.1
    subst h1
    refine ⟨ti, e, te, hti, he, hte, Nat.eq_of_beq_eq_true h.2, ?_⟩
    cases hq : te.sh <;> first | rfl | exact absurd hq (k1 _) | exact absurd hq (k2 _ _)
   cases h
  cases h
 cases h
theorem Lb {n : Int} {kk : IntKind} {id : Nat} {y : α} (hy : AY l n = some y) (ht : RD AD t l.length = true) (hx : BC nt sl x = .lpb id 0) (hi : BC nt sl i = .p (.int kk n)) (_ : True = True)
  (k : f ⟨nt, (d, .lpb id n.toNat) :: sl, h, c⟩) : BB P A AD ⟨nt, sl, h, c⟩ (some d) (.indexAddr t x i) ⟨f, hf⟩ := by
 obtain ⟨ti, e, te, h1, h2, h3, h4, _⟩ := Sw ht
 obtain ⟨g1, g2, g3⟩ := FT hy
 rw [BF (h := h) (c := c)] at hx hi
 refine CC.2 ⟨kk, n, hi, AU.2 ⟨ti, h1, ?_⟩⟩
 dsimp only
 rw [h2, hx]
 refine AU.2 ⟨te, h3, ⟨g1, by omega⟩, ?_⟩
 simp only [Nat.zero_add, h4, Nat.mul_one]
 exact k
def UU (AD : A4) (t : Nat) : Bool := match AD.tt t with
 | some ti => match ti.sh with
  | .struct _ | .arr _ _ => false
  | _ => true
 | none => false
theorem Ul {t : Nat} (h : UU AD t = true) : ∃ ti, AD.tt t = some ti /\ ti.sh.isAgg = false := by
 unfold UU at h
 split at h
 .rename_i ti hti
  refine ⟨ti, hti, ?_⟩
  split at h
  .cases h
  .cases h
  rename_i k1 k2
  cases hq : ti.sh <;> first | rfl | exact absurd hq (k1 _) | exact absurd hq (k2 _ _)
 cases h
theorem SE {n : Int} {id : Nat} {y : α} {g : α -> LV} (hy : AY l n = some y) (hx : BC nt sl x = .lpb id n.toNat) (hl : Be id h = some (.box (l.map g))) (ht : UU AD t = true) (_ : True = True)
  (k : f ⟨nt, (d, g y) :: sl, h, c⟩) : BB P A AD ⟨nt, sl, h, c⟩ (some d) (.load t x) ⟨f, hf⟩ := by
 obtain ⟨ti, h1, h2⟩ := Ul ht
 obtain ⟨g1, g2, g3⟩ := FT hy
 rw [BF (h := h) (c := c)] at hx
 rw [BL] at hl
 refine AU.2 ⟨ti, h1, ?_⟩
 rw [hx]
 refine AR.2 ⟨_, hl, ?_⟩
 dsimp only
 refine F8.2 ⟨_, rfl, ?_⟩
 refine AR.2 ⟨g y, ?_, k⟩
 simp only [Cu, h2, Bool.false_eq_true, if_false, List.getElem?_map, g3, Option.map_some]
theorem AAl {n : Int} {kk : IntKind} {y : α} {g : α -> DV} (hy : AY l n = some y) (ht : RD AD t l.length = true) (hx : BC nt sl x = .p (.agg (l.map g))) (hi : BC nt sl i = .p (.int kk n)) (_ : True = True)
  (k : f ⟨nt, (d, .p (g y)) :: sl, h, c⟩) : BB P A AD ⟨nt, sl, h, c⟩ (some d) (.index t x i) ⟨f, hf⟩ := by
 obtain ⟨ti, e, te, h1, h2, h3, h4, h5⟩ := Sw ht
 obtain ⟨g1, g2, g3⟩ := FT hy
 rw [BF (h := h) (c := c)] at hx hi
 refine CC.2 ⟨kk, n, hi, AU.2 ⟨ti, h1, g1, ?_⟩⟩
 dsimp only
 rw [h2, hx]
 refine AU.2 ⟨te, h3, by show n < (l.length : Int); omega, AR.2 ⟨.p (g y), ?_, k⟩⟩
 simp only [Cu, h5, Bool.false_eq_true, if_false, h4, Nat.mul_one, List.map_map, List.getElem?_map, g3, Option.map_some, Function.comp]
section
variable {κ υ : Type} [BEq κ] {ke : κ -> DV} {ve : υ -> DV} {mp : List (κ × υ)} {kt et : Nat}
def L7 (m : List (κ × υ)) (x : κ) : Nat := match m with
 | [] => 0
 | p :: m => if x == p.1 then 0 else L7 m x + 1
def JP (m : List (κ × υ)) (x : κ) (z : υ) : List (κ × υ) := match m with
 | [] => [(x, z)]
 | p :: m => if x == p.1 then p :: m else p :: JP m x z
theorem SF (hk : IF AD kt ke) (x : κ) : ∀ m : List (κ × υ), (CY (ke x) (Ao ke ve m)).map (·.1) = if (Am m x).isSome then some (L7 m x) else none
 | [] => by simp [Ao, CY, Am]
 | p :: m => by
  have ih := SF hk x m
  simp only [Ao] at ih
  simp only [Ao, List.map_cons, CY, hk.eq, Am, L7]
  by_cases h : (x == p.1) = true
  .simp [h]
  simp only [h, Bool.false_eq_true, if_false, Option.map_map]
  cases ha : (Am m x).isSome with
  | true =>
   rw [ha, if_pos rfl] at ih
   obtain ⟨r, hr, h1⟩ := Option.map_eq_some_iff.1 ih
   rw [hr]; simp [h1]
  | false =>
   rw [ha] at ih
   simp only [Bool.false_eq_true, if_false, Option.map_eq_none_iff] at ih
   rw [ih]; simp
theorem Th {x : κ} {z : υ} : ∀ {m : List (κ × υ)}, (Am m x).isSome = true -> JP m x z = m
 | [], h => by simp [Am] at h
 | p :: m, h => by
  simp only [Am] at h
  simp only [JP]
  by_cases hx : (x == p.1) = true
  .rw [if_pos hx]
  rw [if_neg hx] at h ⊢; rw [Th h]
theorem Ti {x : κ} {z : υ} : ∀ {m : List (κ × υ)}, (Am m x).isSome = false -> JP m x z = m ++ [(x, z)] /\ L7 m x = m.length
 | [], _ => ⟨rfl, rfl⟩
 | p :: m, h => by
  simp only [Am] at h
  simp only [JP, L7]
  by_cases hx : (x == p.1) = true
  .rw [if_pos hx] at h; cases h
  rw [if_neg hx] at h ⊢
  obtain ⟨h1, h2⟩ := Ti (z := z) h
  rw [h1, if_neg hx, h2]; simp
theorem Tj {x : κ} {z w : υ} : ∀ (m : List (κ × υ)), ∃ p, (JP m x z)[L7 m x]? = some p /\ (JP m x z).set (L7 m x) (p.1, w) = A1 x w m
 | [] => ⟨(x, z), rfl, rfl⟩
 | p :: m => by
  simp only [JP, L7, A1]
  by_cases hx : (x == p.1) = true
  .simp only [hx, if_true]; exact ⟨p, rfl, rfl⟩
  simp only [hx, Bool.false_eq_true, if_false]
  obtain ⟨q, h1, h2⟩ := Tj (x := x) (z := z) (w := w) m
  exact ⟨q, by simpa using h1, by simp [h2]⟩
theorem VJ {id : Nat} {v : BA} : ∀ {h : AS}, AJ id h = some v -> BU id v h = h
 | [], hl => by simp [AJ] at hl
 | (q, u) :: r, hl => by
  simp only [AJ] at hl
  simp only [BU]
  split
  .rw [if_pos ‹_›] at hl; cases hl; rfl
  rw [if_neg ‹_›] at hl; rw [VJ hl]
theorem SG {y : κ} {id : Nat} {h' : AS} (z : υ) (hk : IF AD kt ke) (hx : BC nt sl x = .lmap id) (hm : Be id h = some (.map (Ao ke ve mp))) (hi : BC nt sl i = .p (ke y)) (ht : VD AD t kt et = true) (hz : (AD.tt et).map TI.zeroDV = some (ve z))
  (hu : J1 id (.map (Ao ke ve (JP mp y z))) h some = some h') (k : f ⟨nt, (d, .tup [.p (ve ((Am mp y).getD z)), .p (.int .i64 (L7 mp y))]) :: sl, h', c⟩) : BB P A AD ⟨nt, sl, h, c⟩ (some d) (.mapEntry t x i) ⟨f, hf⟩ := by
 obtain ⟨ti, h1, h2⟩ := Pm ht
 rw [BF (h := h) (c := c)] at hx hi
 rw [BL] at hm
 rw [Ff, Option.some.injEq] at hu
 subst hu
 obtain ⟨te, h3, h4⟩ := Option.map_eq_some_iff.1 hz
 refine AU.2 ⟨ti, h1, EL.2 ⟨kt, et, h2, AU.2 ⟨te, h3, De.2 ⟨id, hx, AR.2 ⟨_, hm, ?_⟩⟩⟩⟩⟩
 dsimp only
 refine EY.2 ⟨Ao ke ve mp, rfl, ?_⟩
 refine Ce.2 ⟨_, hi, ⟨hk.fits y, Ks hk mp⟩, ?_⟩
 have hf1 := SF (ve := ve) hk y mp
 rw [Mb hk, h4, RS]
 cases ha : (Am mp y).isSome with
 | true =>
  rw [ha, if_pos rfl] at hf1
  obtain ⟨r, hr, h5⟩ := Option.map_eq_some_iff.1 hf1
  rw [Th ha, VJ hm] at k
  rw [hr]
  simp only [Option.map_some, Option.getD_some, h5]
  exact k
 | false =>
  rw [ha] at hf1
  simp only [Bool.false_eq_true, if_false, Option.map_eq_none_iff] at hf1
  obtain ⟨g1, g2⟩ := Ti (z := z) ha
  rw [g1, g2] at k
  rw [hf1]
  have e1 : Ao ke ve (mp ++ [(y, z)]) = Ao ke ve mp ++ [(ke y, ve z)] := by simp [Ao]
  have e2 : (Ao ke ve mp).length = mp.length := by simp [Ao]
  rw [e1] at k
  simp only [Option.map_none, Option.getD_none, e2]
  exact k
theorem SH {y : κ} {z w : υ} {id : Nat} {h' : AS} {s v : Operand} (hx : BC nt sl x = .lmap id) (hm : Be id h = some (.map (Ao ke ve (JP mp y z)))) (hs : BC nt sl s = .p (.int .i64 (L7 mp y))) (hv : BC nt sl v = .p (ve w))
  (hu : J1 id (.map (Ao ke ve (A1 y w mp))) h some = some h') (k : f ⟨nt, sl, h', c⟩) : BB P A AD ⟨nt, sl, h, c⟩ none (.entryStore t x s v) ⟨f, hf⟩ := by
 rw [BF (h := h) (c := c)] at hx hs hv
 rw [BL] at hm
 rw [Ff, Option.some.injEq] at hu
 subst hu
 refine De.2 ⟨id, hx, AR.2 ⟨_, hm, ?_⟩⟩
 dsimp only
 refine EY.2 ⟨_, rfl, ?_⟩
 refine CC.2 ⟨.i64, _, hs, Ce.2 ⟨_, hv, Int.natCast_nonneg _, ?_⟩⟩
 obtain ⟨p, h1, h2⟩ := Tj (x := y) (z := z) (w := w) mp
 refine AR.2 ⟨(ke p.1, ve p.2), by simp only [Int.toNat_natCast, Ao, List.getElem?_map, h1, Option.map_some], ?_⟩
 have e : (Ao ke ve (JP mp y z)).set (Int.toNat (L7 mp y : Int)) (ke p.1, ve w) = Ao ke ve (A1 y w mp) := by
  rw [<- h2]; simp [Ao, List.map_set]
 dsimp only
 rw [e]
 exact k
end
end
def bsF (AD : A4) (nt : Nat) (sl : List (Nat × LV)) (t n : Nat) (ps : List (Nat × Operand)) : Option (Nat × List (List DV)) :=
 match AD.tt t with
 | some ti => match ti.sh with
  | .slc e => match AD.tt e with
   | some te => match Nat.blt 0 te.size && Nat.ble (n * te.size) 16777216 with
    | true => OX nt sl ps fun ps' => Pd te.size 0 ps' fun l => match Nat.beq l.length n with
     | true => some (te.size, l)
     | false => none
    | false => none
   | none => none
  | _ => none
 | none => none
theorem X0 {P : Program} {A : BE} {AD : A4} {nt : Nat} {sl : List (Nat × LV)} {h : AS} {c d : Nat} {f : St -> Prop} {hf : IM f} {t n sz : Nat} {ps : Array (Nat × Operand)} {l : List (List DV)}
  (hb : bsF AD nt sl t n ps.toList = some (sz, l)) (k : f ⟨nt, (d, .p (.slice sz l)) :: sl, h, c⟩) : BB P A AD ⟨nt, sl, h, c⟩ (some d) (.buildSlice t n ps) ⟨f, hf⟩ := by
 unfold bsF at hb
 split at hb
 .rename_i ti ht
  split at hb
  .rename_i e hsh
   split at hb
   .rename_i te hte
    split at hb
    .rename_i hq
     rw [L4] at hb
     obtain ⟨l', h1, h2⟩ := Pe hb
     split at h2
     .rename_i hlen
      simp only [Option.some.injEq, Prod.mk.injEq] at h2
      obtain ⟨rfl, rfl⟩ := h2
      simp only [Bool.and_eq_true] at hq
      simp only [BB]
      simp only [BF (h := h) (c := c)] at h1
      exact AU.2 ⟨ti, ht, B7.2 ⟨e, hsh, AU.2 ⟨te, hte, ⟨Nat.le_of_ble_eq_true hq.1, Nat.le_of_ble_eq_true hq.2⟩, AR.2 ⟨l', h1, Nat.eq_of_beq_eq_true hlen, .inr k⟩⟩⟩⟩
     cases h2
    cases hb
   cases hb
  cases hb
 cases hb
end Go.E
/- The types that the functions of this seat use, as plain data. Written by a program (mkenv.py). No condition. -/
namespace Go.E
open Go Go.RowKit Go.Proofs
def ttL : List (Nat × TI) := [
 (3, ⟨.int .i64, 1, 8, [.int .i64 0]⟩),
 (4, ⟨.bool, 1, 1, [.bool false]⟩),
 (5, ⟨.int .u8, 1, 1, [.int .u8 0]⟩),
 (9, ⟨.str, 1, 16, [.str .empty]⟩),
 (22, ⟨.slc 123, 1, 24, [.nils]⟩),
 (23, ⟨.slc 125, 1, 24, [.nils]⟩),
 (24, ⟨.slc 110, 1, 24, [.nils]⟩),
 (25, ⟨.slc 147, 1, 24, [.nils]⟩),
 (27, ⟨.struct [(0, 22), (1, 23), (2, 24), (3, 25), (4, 3), (5, 3), (6, 3), (7, 3), (8, 4)], 9, 136, [.nils, .nils, .nils, .nils, .int .i64 0, .int .i64 0, .int .i64 0, .int .i64 0, .bool false]⟩),
 (28, ⟨.slc 80, 1, 24, [.nils]⟩),
 (29, ⟨.slc 68, 1, 24, [.nils]⟩),
 (31, ⟨.struct [(0, 3), (1, 28), (2, 29)], 3, 56, [.int .i64 0, .nils, .nils]⟩),
 (33, ⟨.slc 72, 1, 24, [.nils]⟩),
 (35, ⟨.struct [(0, 27), (9, 33)], 10, 160, [.nils, .nils, .nils, .nils, .int .i64 0, .int .i64 0, .int .i64 0, .int .i64 0, .bool false, .nils]⟩),
 (36, ⟨.other, 1, 8, [.nilp]⟩),
 (40, ⟨.struct [(0, 3), (1, 3)], 2, 16, [.int .i64 0, .int .i64 0]⟩),
 (42, ⟨.struct [(0, 9), (1, 3), (2, 40), (4, 3)], 5, 48, [.str .empty, .int .i64 0, .int .i64 0, .int .i64 0, .int .i64 0]⟩),
 (50, ⟨.slc 3, 1, 24, [.nils]⟩),
 (54, ⟨.slc 88, 1, 24, [.nils]⟩),
 (56, ⟨.struct [(0, 50), (1, 54)], 2, 48, [.nils, .nils]⟩),
 (62, ⟨.int .i64, 1, 8, [.int .i64 0]⟩),
 (66, ⟨.slc 97, 1, 24, [.nils]⟩),
 (68, ⟨.struct [(0, 9), (1, 3), (2, 3), (3, 3), (4, 66)], 5, 64, [.str .empty, .int .i64 0, .int .i64 0, .int .i64 0, .nils]⟩),
 (69, ⟨.slc 76, 1, 24, [.nils]⟩),
 (70, ⟨.slc 185, 1, 24, [.nils]⟩),
 (72, ⟨.struct [(0, 3), (1, 3), (2, 3), (3, 69), (4, 70), (5, 70), (6, 50), (7, 50), (8, 4)], 9, 152, [.int .i64 0, .int .i64 0, .int .i64 0, .nils, .nils, .nils, .nils, .nils, .bool false]⟩),
 (76, ⟨.struct [(0, 3), (1, 3), (2, 3)], 3, 24, [.int .i64 0, .int .i64 0, .int .i64 0]⟩),
 (80, ⟨.struct [(0, 9), (1, 3), (2, 3), (3, 3), (4, 3)], 5, 48, [.str .empty, .int .i64 0, .int .i64 0, .int .i64 0, .int .i64 0]⟩),
 (88, ⟨.struct [(0, 50), (1, 3)], 2, 32, [.nils, .int .i64 0]⟩),
 (97, ⟨.struct [(0, 4), (1, 3), (2, 3), (3, 3)], 4, 32, [.bool false, .int .i64 0, .int .i64 0, .int .i64 0]⟩),
 (110, ⟨.struct [(0, 9), (1, 40), (3, 4)], 4, 40, [.str .empty, .int .i64 0, .int .i64 0, .bool false]⟩),
 (115, ⟨.slc 40, 1, 24, [.nils]⟩),
 (117, ⟨.struct [(0, 3), (1, 115), (2, 3), (3, 3), (4, 3)], 5, 56, [.int .i64 0, .nils, .int .i64 0, .int .i64 0, .int .i64 0]⟩),
 (123, ⟨.struct [(0, 9), (1, 3), (2, 3)], 3, 32, [.str .empty, .int .i64 0, .int .i64 0]⟩),
 (125, ⟨.struct [(0, 40), (2, 40)], 4, 32, [.int .i64 0, .int .i64 0, .int .i64 0, .int .i64 0]⟩),
 (130, ⟨.mp 40 40, 1, 8, [.nilm]⟩),
 (131, ⟨.mp 40 3, 1, 8, [.nilm]⟩),
 (132, ⟨.mp 3 161, 1, 8, [.nilm]⟩),
 (133, ⟨.mp 3 3, 1, 8, [.nilm]⟩),
 (135, ⟨.struct [(0, 27), (9, 130), (10, 131), (11, 132), (12, 133)], 13, 168, [.nils, .nils, .nils, .nils, .int .i64 0, .int .i64 0, .int .i64 0, .int .i64 0, .bool false, .nilm, .nilm, .nilm, .nilm]⟩),
 (143, ⟨.mp 3 4, 1, 8, [.nilm]⟩),
 (147, ⟨.struct [(0, 9), (1, 50)], 2, 40, [.str .empty, .nils]⟩),
 (152, ⟨.arr 40 4, 40, 40, [.bool false, .bool false, .bool false, .bool false, .bool false, .bool false, .bool false, .bool false, .bool false, .bool false, .bool false, .bool false, .bool false, .bool false, .bool false, .bool false, .bool false, .bool false, .bool false, .bool false, .bool false, .bool false, .bool false, .bool false, .bool false, .bool false, .bool false, .bool false, .bool false, .bool false, .bool false, .bool false, .bool false, .bool false, .bool false, .bool false, .bool false, .bool false, .bool false, .bool false]⟩),
 (161, ⟨.arr 2 3, 2, 16, [.int .i64 0, .int .i64 0]⟩),
 (164, ⟨.slc 9, 1, 24, [.nils]⟩),
 (185, ⟨.struct [(0, 3), (1, 3)], 2, 16, [.int .i64 0, .int .i64 0]⟩),
 (186, ⟨.mp 40 4, 1, 8, [.nilm]⟩),
 (191, ⟨.other, 1, 8, [.nilp]⟩),
 (209, ⟨.other, 1, 8, [.nilp]⟩),
 (210, ⟨.slc 215, 1, 24, [.nils]⟩),
 (212, ⟨.struct [(0, 3), (1, 69), (2, 50), (3, 210)], 4, 80, [.int .i64 0, .nils, .nils, .nils]⟩),
 (215, ⟨.slc 217, 1, 24, [.nils]⟩),
 (217, ⟨.struct [(0, 3), (1, 3)], 2, 16, [.int .i64 0, .int .i64 0]⟩),
 (223, ⟨.mp 9 4, 1, 8, [.nilm]⟩),
 (227, ⟨.int .u64, 1, 8, [.int .u64 0]⟩),
 (232, ⟨.int .i64, 1, 8, [.int .i64 0]⟩),
 (239, ⟨.int .u32, 1, 4, [.int .u32 0]⟩),
 (241, ⟨.int .u64, 1, 8, [.int .u64 0]⟩),
 (242, ⟨.arr 4 3, 4, 32, [.int .i64 0, .int .i64 0, .int .i64 0, .int .i64 0]⟩),
 (243, ⟨.arr 3 3, 3, 24, [.int .i64 0, .int .i64 0, .int .i64 0]⟩),
 (244, ⟨.int .u64, 1, 8, [.int .u64 0]⟩),
 (248, ⟨.other, 1, 8, [.nilp]⟩)]
def eqL : List (Nat × List Sh) := [(40, [.int .i64, .int .i64]), (42, [.str, .int .i64, .int .i64, .int .i64, .int .i64]), (185, [.int .i64, .int .i64])]
def ABx : List (Nat × List Sh) := [(40, [.int .i64, .int .i64])]
def ABy : List Nat := [36]
def AD : A4 := ⟨fun t => Be t ttL, fun t => Be t eqL, fun t => Be t ABx, U7 ABy, none, false⟩
theorem ABz : ∃ e, Tryz.prog.underlying 36 = some (.pointer e) := ⟨135, by kernel_rfl⟩
theorem Ps : Pa Tryz.prog AD.tt := AAE (by kernel_rfl)
theorem AAm : PW Tryz.prog 40 [.int .i64, .int .i64] := TX (by kernel_rfl) (by kernel_rfl) (by kernel_rfl) (by kernel_rfl)
theorem AB0 : R0 Tryz.prog 40 [.int .i64, .int .i64] := Xi (by kernel_rfl) AAm (by kernel_rfl)
theorem ACo : PW Tryz.prog 42 [.str, .int .i64, .int .i64, .int .i64, .int .i64] := Y9 [(false, [.str]), (false, [.int .i64]), (true, [.int .i64, .int .i64]), (false, [.int .i64])] (by kernel_rfl) (by kernel_rfl) (by kernel_rfl) (by kernel_rfl)
theorem AB1 : PW Tryz.prog 185 [.int .i64, .int .i64] := TX (by kernel_rfl) (by kernel_rfl) (by kernel_rfl) (by kernel_rfl)
theorem AA : BD Tryz.prog AD := by
 refine ⟨Ps, fun t ks h => ?_, fun t ks h => ?_, fun t h => ?_⟩
 .simp only [AD, BL, eqL, AJ] at h
  split at h
  .subst_vars; cases h; exact AAm
  split at h
  .subst_vars; cases h; exact ACo
  split at h
  .subst_vars; cases h; exact AB1
  cases h
 .simp only [AD, BL, ABx, AJ] at h
  split at h
  .subst_vars; cases h; exact AB0
  cases h
 simp only [AD, ABy, XB, List.mem_cons, List.not_mem_nil, or_false] at h
 rcases h with rfl
 exact ABz
theorem mixed : Tryz.prog.follows .mixedOrders = true := by kernel_rfl
end Go.E
/- slices.Delete as a call out of a data state: the row goes on under a new name. For an own slice, i up to j up to its length. -/
namespace Go.E
open Go Go.RowKit Go.Shelf Go.Proofs
theorem I0 (b : Nat) : ∀ (vs : List Value) (o : Nat) (w : World) (c : Array Value) (e : TypeId), w.heap[b]? = some (.cells c e (0, 0)) -> o + vs.length <= c.size ->
  ∃ c', (w.setCells b o vs).heap[b]? = some (.cells c' e (0, 0)) /\ c'.size = c.size /\ ∀ t, c'[t]? = if o <= t /\ t < o + vs.length then vs[t - o]? else c[t]?
 | [], o, w, c, e, h, _ => ⟨c, h, rfl, fun t => by rw [if_neg (by simp)]⟩
 | v :: r, o, w, c, e, h, hl => by
  simp only [List.length_cons] at hl
  have hb : (w.setCell ⟨b, o, none⟩ v).heap[b]? = some (.cells (c.setIfInBounds o v) e (0, 0)) := by
   simp [World.setCell, Array.getElem?_modify, h]
  obtain ⟨c', h1, h2, h3⟩ := I0 b r (o + 1) _ _ e hb (by simp; omega)
  refine ⟨c', h1, by rw [h2]; simp, fun t => ?_⟩
  rw [h3 t]
  simp only [List.length_cons]
  by_cases h4 : t = o
  .subst h4
   rw [if_neg (by omega), if_pos (by omega), Array.getElem?_setIfInBounds, if_pos rfl, if_pos (by omega)]
   simp
  by_cases h5 : o + 1 <= t /\ t < o + 1 + r.length
  .rw [if_pos h5, if_pos (by omega)]
   rw [show t - o = t - (o + 1) + 1 by omega, List.getElem?_cons_succ]
  rw [if_neg h5, if_neg (by omega), Array.getElem?_setIfInBounds, if_neg (fun e => h4 e.symm)]
theorem LG (b : Nat) : ∀ (vs : List Value) (o : Nat) (w : World), (w.setCells b o vs).heap.size = w.heap.size
 | [], _, _ => rfl
 | v :: r, o, w => by rw [World.setCells, LG b r]; simp [World.setCell]
theorem M3 (b : Nat) : ∀ (vs : List Value) (o : Nat) (w : World), (w.setCells b o vs).os = w.os
 | [], _, _ => rfl
 | v :: r, o, w => by rw [World.setCells, M3 b r]; rfl
theorem LH (b : Nat) : ∀ (vs : List Value) (o : Nat) (w : World), (w.setCells b o vs).tape = w.tape
 | [], _, _ => rfl
 | v :: r, o, w => by rw [World.setCells, LH b r]; rfl
theorem JQ (b : Nat) : ∀ (vs : List Value) (o : Nat) (w : World), (w.setCells b o vs).output = w.output
 | [], _, _ => rfl
 | v :: r, o, w => by rw [World.setCells, JQ b r]; rfl
theorem J7 (b : Nat) : ∀ (vs : List Value) (o : Nat) (w : World) (q : Nat), q ≠ b -> (w.setCells b o vs).heap[q]? = w.heap[q]?
 | [], _, _, _, _ => rfl
 | v :: r, o, w, q, h => by
  rw [World.setCells, J7 b r _ _ q h]
  simp only [World.setCell, Array.getElem?_modify]
  rw [if_neg (fun e => h e.symm)]
variable {P : Program} {ρ : Ren} {AD : A4} {A : BE}
section
variable {α : Type} {enc : α -> List DV} {l r : List α} {i j : Int} {nt : Nat} {sl : List (Nat × LV)} {h h' : AS} {c d : Nat} {f : St -> Prop} {hf : IM f}
end
end Go.E
/- slices.Sort and slices.Compact of an own row of whole numbers, as calls out of a data state. For rows of fewer than 2^62 numbers. -/
namespace Go.E
open Go Go.RowKit Go.Shelf Go.Proofs Go.Sort
def Fb (n : Int) : List DV := [.int .i64 n]
def Rl (x : Int) : List Int -> List Int
 | [] => [x]
 | y :: l => if x <= y then x :: y :: l else y :: Rl x l
def EC : List Int -> List Int
 | [] => []
 | x :: l => Rl x (EC l)
theorem QT (x : Int) : ∀ l, (Rl x l).Perm (x :: l)
 | [] => .refl _
 | y :: l => by
  unfold Rl
  split
  .exact .refl _
  exact ((QT x l).cons y).trans (.swap x y l)
theorem FQ : ∀ l, (EC l).Perm l
 | [] => .refl _
 | x :: l => (QT x (EC l)).trans ((FQ l).cons x)
theorem UE (x : Int) : ∀ l, l.Pairwise (· <= ·) -> (Rl x l).Pairwise (· <= ·)
 | [], _ => by simp [Rl]
 | y :: l, h => by
  unfold Rl
  rw [List.pairwise_cons] at h
  split
  .rename_i hxy
   refine List.pairwise_cons.2 ⟨fun z hz => ?_, List.pairwise_cons.2 h⟩
   rcases List.mem_cons.1 hz with rfl | hz
   .exact hxy
   exact Int.le_trans hxy (h.1 z hz)
  rename_i hxy
  refine List.pairwise_cons.2 ⟨fun z hz => ?_, UE x l h.2⟩
  rcases List.mem_cons.1 ((QT x l).mem_iff.1 hz) with rfl | hz
  .omega
  exact h.1 z hz
theorem Ov : ∀ l, (EC l).Pairwise (· <= ·)
 | [] => by simp [EC]
 | x :: l => UE x _ (Ov l)
theorem V9 (l : List Int) : l.mergeSort (fun x y => decide (x <= y)) = EC l := by
 refine List.Perm.eq_of_pairwise (le := fun a b : Int => a <= b) (fun a b _ _ h1 h2 => Int.le_antisymm h1 h2) ?_ (Ov l) ((List.mergeSort_perm _ _).trans (FQ l).symm)
 have := List.pairwise_mergeSort (le := fun x y : Int => decide (x <= y)) (by simp; intro a b c; omega) (by simp; omega) l
 simpa using this
def Qg (l : List Int) : Option (List Int) := if l.length < 4611686018427387904 then some (EC l) else none
theorem ZE {l r : List Int} (h : Qg l = some r) : l.length = r.length := by
 unfold Qg at h
 split at h
 .cases h; exact (FQ l).length_eq.symm
 cases h
def Uh (l : List Int) : Option (List Int) := if l.length < 4611686018427387904 then some (Lib.compact l) else none
section
variable {P : Program} {ρ : Ren} {AD : A4} {A : BE}
theorem row_holds {O : Nat -> Prop} {w : World} {b o : Nat} {c : Array Value} {e : TypeId} {zs : List Int} {n : Nat} (hb : w.heap[b]? = some (.cells c e (0, 0))) (hc : c.size = o + n) (hn : zs.length <= n)
  (hrel : ∀ (i j : Nat) (x : List DV) (d : DV) (v : Value), (zs.map Fb)[i]? = some x -> x[j]? = some d -> c[o + i * 1 + j]? = some v -> Av O w v d) : Holds (Value.int .i64) w b o zs.toArray := by
 intro j hj
 have hj' : j < zs.length := by simpa using hj
 have hlt : o + j < c.size := by omega
 have hz : (zs.map Fb)[j]? = some (Fb zs[j]) := by simp [hj']
 have := hrel j 0 _ (.int .i64 zs[j]) c[o + j] hz rfl (by simp [hlt])
 have key : ∀ u, Av O w u (.int .i64 zs[j]) -> u = .int .i64 zs[j] := fun u h => by cases h; rfl
 refine ⟨?_, by simp [World.frozen?, hb]⟩
 rw [Cl hb (Array.getElem?_eq_getElem hlt), key _ this]
 simp [hj']
theorem Yk (hE : BD P AD) (L : Lays.n189 P ρ) {e : Nat} {te : TI} (h3 : AD.tt e = some te) (h1 : te.size = 1) {h : AS} {ctr id : Nat} {zs ys : List Int}
  (hl : AJ id h = some (.row e 1 (zs.map Fb))) (hs : Qg zs = some ys) {K : LV -> AS -> Nat -> Prop} (hK : K (.p (.tup [])) (BU id (.row e 1 (ys.map Fb)) h) ctr) :
  C0 P A h ctr (ρ.f 189) [.lsl id 1 0 zs.length] K := by
 unfold Qg at hs
 rw [<- V9] at hs
 split at hs
 .rename_i hlen
  cases hs
  refine ⟨ED L.f189 rfl rfl, fun μ w vs hh hsz hr => ?_⟩
  have hvs : ∃ a, vs = #[a] := by
   obtain ⟨l⟩ := vs
   match l, hsz with
   | [a], _ => exact ⟨a, rfl⟩
  obtain ⟨v0, rfl⟩ := hvs
  have h0 := hr 0 v0 _ rfl rfl
  have htup : ∀ w', Ah (Aj A μ (BU id (.row e 1 ((zs.mergeSort fun x y => decide (x <= y)).map Fb)) h)) μ w' (.tuple #[]) (.p (.tup [])) := fun w' => .p _ _ (.tup #[] [] rfl (by simp))
  obtain ⟨loc, hm, hz, hel, hrow⟩ := hh.obj id _ hl
  have empty : zs = [] -> ∀ p cap, v0 = .slice p 0 cap -> Calls P (ρ.f 189) #[v0] w fun en w' => ∃ u l h' c' μ', en = .returned u /\ K l h' c' /\ HRel A μ' h' (Fr c') w' /\ Ah (Aj A μ' h') μ' w' u l /\ ∀ v x, Ah (Aj A μ h) μ w v x -> Ah (Aj A μ' h') μ' w' v x := by
   rintro rfl p cap rfl
   refine (Any.slices_Sort_int_none L p cap w).mono ?_
   rintro en w' ⟨rfl, rfl⟩
   have hu : ∀ q, AJ q (BU id (.row e 1 ((([] : List Int).mergeSort fun x y => decide (x <= y)).map Fb)) h) = AJ q h := fun q => by
    by_cases hq : q = id
    .subst hq; rw [Io hl, hl]; simp
    rw [DP hq]
   have hmine : Bq μ (BU id (.row e 1 ((([] : List Int).mergeSort fun x y => decide (x <= y)).map Fb)) h) = Bq μ h := by
    funext b; simp only [Bq, hu]
   have hown : Aj A μ (BU id (.row e 1 ((([] : List Int).mergeSort fun x y => decide (x <= y)).map Fb)) h) = Aj A μ h := by funext b; simp only [Aj, hmine]
   refine ⟨_, _, _, _, μ, rfl, hK, ?_, htup _, fun v x hv => by rw [hown]; exact hv⟩
   refine ⟨fun q o hq => ?_, fun q q' o o' l l' hq hq' => ?_, hh.fresh, fun q o l hq => ?_, hh.size, hh.block, hh.os, hh.tape, hh.output, hh.ext⟩
   .rw [hu] at hq; rw [hown]; exact hh.obj q o hq
   .rw [hu] at hq hq'; exact hh.inj q q' o o' l l' hq hq'
   rw [hu] at hq; exact hh.base q o l hq
  rcases hrow with ⟨hn, hz0⟩ | ⟨hn, c, hblk, hcs, hle, hcm, hrel⟩
  .have hzs : zs = [] := by simpa using hz0
   subst hzs
   generalize hgen : (LV.lsl id 1 0 ([] : List Int).length) = lv at h0
   cases h0 with
   | lsln => exact empty rfl _ _ rfl
   | lsl _ _ _ cap ad loc' hm' hn' hcap hlc had hbk hsp =>
    simp only [LV.lsl.injEq, List.length_nil] at hgen
    obtain ⟨-, -, -, e4⟩ := hgen
    subst e4
    exact empty rfl _ _ rfl
   | _ => cases hgen
  by_cases hne : zs = []
  .subst hne
   generalize hgen : (LV.lsl id 1 0 ([] : List Int).length) = lv at h0
   cases h0 with
   | lsln => exact empty rfl _ _ rfl
   | lsl _ _ _ cap ad loc' hm' hn' hcap hlc had hbk hsp =>
    simp only [LV.lsl.injEq, List.length_nil] at hgen
    obtain ⟨-, -, -, e4⟩ := hgen
    subst e4
    exact empty rfl _ _ rfl
   | _ => cases hgen
  have hpos : 0 < zs.length := List.length_pos_iff.2 hne
  generalize hgen : (LV.lsl id 1 0 zs.length) = lv at h0
  cases h0 with
  | lsl id' off len cap ad loc' hm' hn' hcap hlc had hbk hsp =>
   simp only [LV.lsl.injEq] at hgen
   obtain ⟨e1, e2, e3, e4⟩ := hgen
   subst e1 e3 e4
   rw [hm] at hm'; cases hm'
   have had' := had (by omega)
   simp only [Nat.zero_mul, Nat.add_zero] at had'
   subst had'
   have hlt := (hh.base id _ loc hl hm hn).1
   simp only [List.length_map] at hle
   have hH := row_holds (zs := zs) (o := loc.o) (n := loc.cap) hblk (by rw [hcs]; omega) hle (by rw [<- hz] at hrel ⊢; exact hrel)
   refine (Any.slices_Sort_int L loc.b loc.o cap zs w hH hlt hlen).mono ?_
   rintro en w' ⟨rfl, q, os, rfl⟩
   have hsl : (zs.mergeSort fun x y => decide (x <= y)).length = zs.length := List.length_mergeSort _
   rw [Lib.putRow_eq_setCells (Value.int .i64) w loc.b loc.o zs.toArray (zs.mergeSort fun x y => decide (x <= y)) q hH (by simp [hsl])]
   obtain ⟨c1, k1, k2, k3⟩ := I0 loc.b ((zs.mergeSort fun x y => decide (x <= y)).map (Value.int .i64)) loc.o (w.drewN q) c e hblk (by simp [hsl]; omega)
   have hw := hh.write (w' := (w.drewN q).setCells loc.b loc.o ((zs.mergeSort fun x y => decide (x <= y)).map (Value.int .i64))) (o := .row e 1 ((zs.mergeSort fun x y => decide (x <= y)).map Fb)) hl hm hn
    (by rw [LG]; rfl) (fun b hb => by rw [J7 _ _ _ _ _ hb]; rfl) (by rw [M3]; rfl) (by rw [LH]; rfl) (by rw [JQ]; rfl)
    ⟨hz, fun y hy => by obtain ⟨n, _, rfl⟩ := List.mem_map.1 hy; rfl, .inr ⟨hn, c1, k1, by rw [k2]; exact hcs, by simpa [hsl] using hle, hcm, fun i j x d v hx hd hv => by
     simp only [List.getElem?_map, Option.map_eq_some_iff] at hx
     obtain ⟨n, hn', rfl⟩ := hx
     have hj : j = 0 := by
      have := (List.getElem?_eq_some_iff.1 hd).1
      simp [Fb] at this; omega
     subst hj
     simp only [Fb, List.getElem?_cons_zero, Option.some.injEq] at hd
     subst hd
     have hi := (List.getElem?_eq_some_iff.1 hn').1
     rw [k3, if_pos (by simp; omega)] at hv
     rw [show loc.o + i * 1 + 0 - loc.o = i by omega, List.getElem?_map, hn'] at hv
     cases hv
     exact .int _ _⟩⟩
   obtain ⟨w1, w2, w3⟩ := hw
   have hk := w1.keep (w' := grow ((w.drewN q).setCells loc.b loc.o ((zs.mergeSort fun x y => decide (x <= y)).map (Value.int .i64))) os) (h' := BU id (.row e 1 ((zs.mergeSort fun x y => decide (x <= y)).map Fb)) h) (μ' := μ) (F' := Fr ctr) (fun _ _ h => h) w1.fresh (fun _ _ h => h)
    (fun b hb => by show (_ ++ os)[b]? = _; rw [Array.getElem?_append_left hb]) (by show _ <= (_ ++ os).size; simp) rfl rfl rfl
   refine ⟨_, _, _, _, μ, rfl, hK, hk.1, htup _, fun v x hv => ?_⟩
   have hv1 := hv.mono w2.own (fun b _ => w3 b) (fun _ _ h => h)
   refine hv1.mono (BJ.mk ?_ ?_) (fun b _ hb => hb) (fun _ _ h => h)
   .show _ <= (_ ++ os).size; simp
   intro b hb _; show (_ ++ os)[b]? = _; rw [Array.getElem?_append_left hb]
  | lsln =>
   simp only [LV.lsl.injEq] at hgen
   obtain ⟨-, -, -, e4⟩ := hgen
   omega
  | _ => cases hgen
 cases hs
theorem Yl (hE : BD P AD) (L : Lays2.n20 P ρ) {e : Nat} {te : TI} (h3 : AD.tt e = some te) (h1 : te.size = 1) {h : AS} {ctr id : Nat} {zs ys : List Int}
  (hl : AJ id h = some (.row e 1 (zs.map Fb))) (hs : Uh zs = some ys) {K : LV -> AS -> Nat -> Prop} (hK : K (.lsl ctr 1 0 ys.length) ((ctr, .row e 1 (ys.map Fb)) :: G2 id h) (ctr + 1)) :
  C0 P A h ctr (ρ.f 20) [.lsl id 1 0 zs.length] K := by
 unfold Uh at hs
 split at hs
 .rename_i hlen
  cases hs
  refine ⟨ED L.f20 rfl rfl, fun μ w vs hh hsz hr => ?_⟩
  have hvs : ∃ a, vs = #[a] := by
   obtain ⟨l⟩ := vs
   match l, hsz with
   | [a], _ => exact ⟨a, rfl⟩
  obtain ⟨v0, rfl⟩ := hvs
  have h0 := hr 0 v0 _ rfl rfl
  have hno := hh.fresh ctr (Nat.le_refl _)
  have hsub : ∀ (o : BA) q x, AJ q ((ctr, o) :: G2 id h) = some x -> (q = ctr /\ x = o) \/ AJ q h = some x := fun o q x hx => by
   simp only [AJ] at hx
   split at hx
   .cases hx; exact .inl ⟨‹_›, rfl⟩
   exact .inr (GP hx).2
  have hFr : ∀ q, Fr (ctr + 1) q -> Fr ctr q /\ q ≠ ctr := fun q hq => by simp only [Fr] at hq ⊢; omega
  obtain ⟨loc, hm, hz, hel, hrow⟩ := hh.obj id _ hl
  have hcl : (Lib.compact zs).length <= zs.length := by
   unfold Lib.compact Lib.compactUpTo
   rw [List.length_map]
   exact Nat.le_trans (List.length_filter_le _ _) (by simp)
  generalize hgen : (LV.lsl id 1 0 zs.length) = lv at h0
  cases h0 with
  | lsln id' loc' hm' hn' =>
   simp only [LV.lsl.injEq] at hgen
   obtain ⟨e1, e2, e3, e4⟩ := hgen
   subst e1
   have hzs : zs = [] := List.length_eq_zero_iff.1 e4
   subst hzs
   rw [hm] at hm'; cases hm'
   refine (Any.slices_Compact_int_empty L none 0 w).mono ?_
   rintro en w' ⟨rfl, rfl⟩
   let lc : BS := ⟨true, 0, 0, 1, 0⟩
   have hadd := hh.add hno lc (.row e 1 []) ((ctr, .row e 1 []) :: G2 id h) (fun h => by cases h) (fun h => by cases h) (hsub _) (BJ.refl _ _) (fun q x l hx hne hm hn => rfl) rfl rfl rfl ⟨rfl, by simp, .inl ⟨rfl, rfl⟩⟩
   exact ⟨_, _, _, _, _, rfl, hK, hadd.less hFr, .lsln ctr lc (by simp [Br]) rfl, fun v x hv => hv.mono (BJ.refl _ _) (hh.sub_add lc _ _ (fun h => by cases h) (hsub _)) (KL hno lc)⟩
  | lsl id' off len cap ad loc' hm' hn hcap hlc had hbk hsp =>
   simp only [LV.lsl.injEq] at hgen
   obtain ⟨e1, e2, e3, e4⟩ := hgen
   subst e1 e3 e4
   rw [hm] at hm'; cases hm'
   rcases hrow with ⟨hn', _⟩ | ⟨_, c, hblk, hcs, hle, hcm, hrel⟩
   .rw [hn] at hn'; cases hn'
   have hlt := (hh.base id _ loc hl hm hn).1
   simp only [List.length_map] at hle
   simp only [Nat.zero_add] at hcap
   have fin : ∀ (w' : World) (c' : Array Value), w'.heap[loc.b]? = some (.cells c' e (0, 0)) -> c'.size = c.size -> w'.heap.size = w.heap.size -> (∀ b, b ≠ loc.b -> w'.heap[b]? = w.heap[b]?) -> w'.os = w.os -> w'.tape = w.tape -> w'.output = w.output ->
     (∀ i n, (Lib.compact zs)[i]? = some n -> c'[loc.o + i]? = some (.int .i64 n)) ->
     ∃ u l h' cc μ', Ending.returned (.slice (some ad) (Lib.compact zs).length cap) = .returned u /\ K l h' cc /\ HRel A μ' h' (Fr cc) w' /\ Ah (Aj A μ' h') μ' w' u l /\ ∀ v x, Ah (Aj A μ h) μ w v x -> Ah (Aj A μ' h') μ' w' v x := by
    intro w' c' hw' hc' hwsz hoth hos htape hout hval
    let lc : BS := ⟨false, loc.b, loc.o, 1, cap⟩
    have hdead : AJ id ((ctr, BA.row e 1 ((Lib.compact zs).map Fb)) :: G2 id h) = none := by
     simp only [AJ]
     rw [if_neg (fun e => by subst e; rw [hm] at hno; cases hno)]
     exact GQ
    have hfresh : OD μ h ((ctr, BA.row e 1 ((Lib.compact zs).map Fb)) :: G2 id h) w lc := fun _ => .inr ⟨id, _, loc, hl, hdead, hm, hn, rfl⟩
    have hkept : BJ (Bq μ h) w w' := ⟨by omega, fun b _ hmine => hoth b fun e => hmine ⟨id, _, loc, hl, hm, hn, e.symm⟩⟩
    have hs := hh.sub_add lc _ _ hfresh (hsub _)
    have hadd := hh.add hno lc _ _ (w' := w') (fun _ => by rw [hwsz]; exact hlt) hfresh (hsub _) hkept (fun q x l hx hne hmq hnq => by
     simp only [AJ] at hx
     rw [if_neg hne] at hx
     obtain ⟨h7, h8⟩ := GP hx
     exact hoth _ fun e => h7 (hh.inj _ _ _ _ _ _ h8 hl hmq hm hnq hn e)) hos htape hout ⟨rfl, fun y hy => by obtain ⟨n, _, rfl⟩ := List.mem_map.1 hy; rfl, .inr ⟨rfl, c', hw', by rw [hc', hcs]; simp only [lc]; rw [hcap], by simp only [List.length_map, lc]; omega, by simp only [lc]; omega, fun q m y d v hy hd hv => by
      simp only [lc] at hv
      simp only [List.getElem?_map, Option.map_eq_some_iff] at hy
      obtain ⟨n, hn', rfl⟩ := hy
      have hj : m = 0 := by
       have := (List.getElem?_eq_some_iff.1 hd).1
       simp [Fb] at this; omega
      subst hj
      simp only [Fb, List.getElem?_cons_zero, Option.some.injEq] at hd
      subst hd
      rw [show loc.o + q * 1 + 0 = loc.o + q by omega, hval q n hn'] at hv
      cases hv
      exact .int _ _⟩⟩
    refine ⟨_, _, _, _, _, rfl, hK, hadd.less hFr, ?_, fun v x hv => hv.mono hkept.own hs (KL hno lc)⟩
    refine .lsl ctr 0 _ cap ad lc (by simp [Br]) rfl (by simp [lc]) (by omega) (fun h0 => ?_) hbk hsp
    rw [had h0]; simp [lc]
   by_cases hne : zs = []
   .subst hne
    refine (Any.slices_Compact_int_empty L (some ad) cap w).mono ?_
    rintro en w' ⟨rfl, rfl⟩
    exact fin w' c hblk rfl rfl (fun _ _ => rfl) rfl rfl rfl (fun i n hi => by simp [Lib.compact, Lib.compactUpTo] at hi)
   have hpos : 0 < zs.length := List.length_pos_iff.2 hne
   have had' := had (by omega)
   simp only [Nat.zero_mul, Nat.add_zero] at had'
   subst had'
   have hH := row_holds (zs := zs) (o := loc.o) (n := loc.cap) hblk (by rw [hcs]; omega) hle (by rw [<- hz] at hrel ⊢; exact hrel)
   refine (Any.slices_Compact_int L loc.b loc.o cap zs w hH (by omega) (by omega)).mono ?_
   rintro en w' ⟨rfl, q, rfl⟩
   have hyl : (Lib.compact zs ++ List.replicate (zs.length - (Lib.compact zs).length) (0 : Int)).length = zs.length := by simp; omega
   rw [Lib.putRow_eq_setCells (Value.int .i64) w loc.b loc.o zs.toArray (Lib.compact zs ++ List.replicate (zs.length - (Lib.compact zs).length) (0 : Int)) q hH (by simpa using hyl)]
   obtain ⟨c1, k1, k2, k3⟩ := I0 loc.b ((Lib.compact zs ++ List.replicate (zs.length - (Lib.compact zs).length) (0 : Int)).map (Value.int .i64)) loc.o (w.drewN q) c e hblk (by rw [List.length_map, hyl]; omega)
   refine fin _ c1 k1 k2 (by rw [LG]; rfl) (fun b hb => by rw [J7 _ _ _ _ _ hb]; rfl) (by rw [M3]; rfl) (by rw [LH]; rfl) (by rw [JQ]; rfl) fun i n hi => ?_
   have hil := (List.getElem?_eq_some_iff.1 hi).1
   rw [k3, if_pos (by rw [List.length_map, hyl]; omega), Nat.add_sub_cancel_left, List.getElem?_map, List.getElem?_append_left hil, hi]
   rfl
  | _ => cases hgen
 cases hs
end
section
variable {P : Program} {ρ : Ren} {AD : A4} {A : BE} {l r : List Int} {nt : Nat} {sl : List (Nat × LV)} {h h' : AS} {c d : Nat} {f : St -> Prop} {hf : IM f}
theorem AB4 (hE : BD P AD) {k : Nat} (L : Lays.n189 P ρ) (hk : ρ.f 189 = k) {t e : Nat} {fo : Operand} {args : Array Operand} {ts : Array TypeId} {id n : Nat} {enc : Int -> List DV} (henc : enc = Fb)
  (hr : Qg l = some r) (hl : Be id h = some (.row e 1 (l.map enc))) (hn : n = l.length) (hd : BU id (.row e 1 (r.map enc)) h = h') (ht : VC AD t e 1 = true)
  (hfn : BC nt sl fo = .fn k []) (ha : Ea nt sl args.toList some = some [.lsl id 1 0 n])
  (kk : f ⟨nt, (d, .p (.tup [])) :: sl, h', c⟩) : BB P A AD ⟨nt, sl, h, c⟩ (some d) (.call ⟨.value fo, args, ts⟩) ⟨f, hf⟩ := by
 obtain ⟨ti, te, h1, h2, h3, h4, h5, h6⟩ := TD ht
 rw [BF (h := h) (c := c)] at hfn
 rw [BL] at hl
 subst henc hn hd hk
 show PB _ _
 rw [hfn]
 show KQ P A h c _ (args.toList.map _ ++ []) _
 rw [I3 ha, List.append_nil]
 exact Yk hE L h3 h4 hl hr kk
theorem AB5 (hE : BD P AD) {k : Nat} (L : Lays2.n20 P ρ) (hk : ρ.f 20 = k) {t e : Nat} {fo : Operand} {args : Array Operand} {ts : Array TypeId} {id n : Nat} {enc : Int -> List DV} (henc : enc = Fb)
  (hr : Uh l = some r) (hl : Be id h = some (.row e 1 (l.map enc))) (hn : n = l.length) (hd : TC id h some = some h') (ht : VC AD t e 1 = true)
  (hfn : BC nt sl fo = .fn k []) (ha : Ea nt sl args.toList some = some [.lsl id 1 0 n])
  (kk : f ⟨nt, (d, .lsl c 1 0 r.length) :: sl, (c, .row e 1 (r.map enc)) :: h', c + 1⟩) : BB P A AD ⟨nt, sl, h, c⟩ (some d) (.call ⟨.value fo, args, ts⟩) ⟨f, hf⟩ := by
 obtain ⟨ti, te, h1, h2, h3, h4, h5, h6⟩ := TD ht
 rw [BF (h := h) (c := c)] at hfn
 rw [Qc, Option.some.injEq] at hd
 rw [BL] at hl
 subst henc hn hd hk
 show PB _ _
 rw [hfn]
 show KQ P A h c _ (args.toList.map _ ++ []) _
 rw [I3 ha, List.append_nil]
 exact Yl hE L h3 h4 hl hr kk
end
end Go.E
/- Arrays in variables, told by lists of a fixed length. No condition. -/
namespace Go.E
open Go Go.RowKit
def Bk (m : Nat) (α : Type) : Type := { l : List α // l.length = m }
def Ro {α : Type} (m : Nat) (z : α) : Bk m α := ⟨List.replicate m z, List.length_replicate⟩
def IC {α : Type} {m : Nat} (a : Bk m α) (n : Int) (z : α) : Bk m α := ⟨A5 a.1 n z, by rw [BH]; exact a.2⟩
theorem Kc {α : Type} {AD : A4} {t m : Nat} (h : RD AD t m = true) (a : Bk m α) : RD AD t a.1.length = true := by rw [a.2]; exact h
theorem CW {α : Type} (gl : List (Nat × Nat)) (gd : α -> DV) (l : List α) : some (BA.box (l.map fun y => .p (gd y))) = some (Sv gl (.box (l.map fun y => .p (gd y)))) := by
 simp only [Sv, Option.some.injEq, BA.box.injEq]
 induction l with
 | nil => rfl
 | cons a l ih => simp only [List.map_cons, EV.renLs, EV]; rw [<- ih]
theorem CB {α : Type} (gl : List (Nat × Nat)) (gd : α -> DV) (l : List α) : PL gl (.box (l.map fun y => .p (gd y))) = true := by
 simp only [PL]
 induction l with
 | nil => rfl
 | cons a l ih => simp only [List.map_cons, Cz.namesLs, Cz, Bool.true_and]; exact ih
theorem TS {α : Type} (v : α) : ∀ (l : List α) (n : Nat), n < l.length -> CD l n [v] = l.set n v
 | x :: l, 0, _ => by
  simp only [CD, CD.over, List.set_cons_zero]
 | x :: l, n + 1, h => by
  simp only [CD, List.set_cons_succ]
  rw [TS v l n (by simpa using h)]
section
variable {P : Program} {A : BE} {AD : A4} {f : St -> Prop} {hf : IM f} {nt : Nat} {sl : List (Nat × LV)} {h : AS} {c d : Nat} {α : Type} {l : List α} {x : Operand} {t : Nat}
theorem UT {n : Int} {id : Nat} {y z : α} {gd : α -> DV} {v : Operand} {h' : AS} (hy : AY l n = some y) (hx : BC nt sl x = .lpb id n.toNat) (hl : Be id h = some (.box (l.map fun y => .p (gd y)))) (hv : BC nt sl v = .p (gd z))
  (hc : (gd z).cell = true) (ht : UU AD t = true) (hsz : (match AD.tt t with | some ti => Nat.beq ti.size 1 | none => false) = true)
  (hu : J1 id (.box ((A5 l n z).map fun y => .p (gd y))) h some = some h') (k : f ⟨nt, sl, h', c⟩) : BB P A AD ⟨nt, sl, h, c⟩ none (.store t x v) ⟨f, hf⟩ := by
 obtain ⟨g1, g2, g3⟩ := FT hy
 rw [BF (h := h) (c := c)] at hx hv
 rw [BL] at hl
 rw [Ff, Option.some.injEq] at hu
 subst hu
 obtain ⟨ti, hti, hagg⟩ := Ul ht
 rw [hti] at hsz
 have hs1 := Nat.eq_of_beq_eq_true hsz
 refine AU.2 ⟨ti, hti, AR.2 ⟨[.p (gd z)], ?_, ⟨by rw [hs1]; rfl, by simp [LV.one, hc]⟩, ?_⟩⟩
 .rw [hv]
  unfold LV.cells
  cases hz : gd z <;> first | rfl | (rw [hz] at hc; cases hc)
 rw [hx]
 refine AR.2 ⟨_, hl, ?_⟩
 dsimp only
 refine F8.2 ⟨_, rfl, ?_⟩
 have hlt : n.toNat < l.length := by omega
 refine ⟨by simp; omega, ?_⟩
 have e : CD (l.map fun y => LV.p (gd y)) n.toNat [.p (gd z)] = (A5 l n z).map fun y => .p (gd y) := by
  rw [TS _ _ _ (by simpa using hlt)]
  simp [A5, List.map_set]
 rw [e]
 exact k
theorem TT {β : Type} : ∀ (l : List β), Ct l l.length = some l
 | [] => rfl
 | x :: l => by simp only [List.length_cons, Ct, TT l, Option.map_some]
theorem W1 (gd : α -> DV) : ∀ l : List α, F9 (l.map fun y => .p (gd y)) = some (l.map gd)
 | [] => rfl
 | x :: l => by simp only [List.map_cons, F9, W1 gd l, Option.map_some]
theorem ACi {id : Nat} {gd : α -> DV} (ht : RD AD t l.length = true) (hsz : (match AD.tt t with | some ti => Nat.beq ti.size l.length | none => false) = true) (hx : BC nt sl x = .lpb id 0) (hl : Be id h = some (.box (l.map fun y => .p (gd y))))
  (k : f ⟨nt, (d, .p (.agg (l.map gd))) :: sl, h, c⟩) : BB P A AD ⟨nt, sl, h, c⟩ (some d) (.load t x) ⟨f, hf⟩ := by
 obtain ⟨ti, e, te, h1, h2, h3, h4, h5⟩ := Sw ht
 rw [h1] at hsz
 have hs1 := Nat.eq_of_beq_eq_true hsz
 rw [BF (h := h) (c := c)] at hx
 rw [BL] at hl
 refine AU.2 ⟨ti, h1, ?_⟩
 rw [hx]
 refine AR.2 ⟨_, hl, ?_⟩
 dsimp only
 refine F8.2 ⟨_, rfl, ?_⟩
 refine AR.2 ⟨.p (.agg (l.map gd)), ?_, k⟩
 have hagg : ti.sh.isAgg = true := by rw [h2]; rfl
 simp only [Cu, hagg, if_true, List.drop_zero]
 have : Ct (l.map fun y => LV.p (gd y)) ti.size = some (l.map fun y => LV.p (gd y)) := by
  have := TT (l.map fun y => LV.p (gd y))
  rwa [List.length_map, <- hs1] at this
 rw [this]
 simp only [Option.map_some, E9, W1]
end
theorem ABd {α : Type} {AD : A4} {t m : Nat} (h : (match AD.tt t with | some ti => Nat.beq ti.size m | none => false) = true) (a : Bk m α) : (match AD.tt t with | some ti => Nat.beq ti.size a.1.length | none => false) = true := by rw [a.2]; exact h
end Go.E
/- A scope in which the run jumps back to one label, and on to another. No condition. -/
namespace Go.E
open Go Go.RowKit
section
variable {P : Program} {A : BE} {st : St} {σ Ans : Type}
end
def Jz {α : Type} (l : List α) (lo hi : Int) : Option (List α) := Jy l lo hi
theorem VW {α : Type} {l r : List α} {lo hi : Int} (h : Jz l lo hi = some r) : lo.toNat + (hi - lo).toNat <= l.length /\ (l.drop lo.toNat).take (hi - lo).toNat = r := by
 unfold Jz Jy at h
 split at h
 .rename_i hb
  cases h
  refine ⟨by omega, ?_⟩
  rw [List.drop_take]
  congr 1
  omega
 cases h
section
variable {P : Program} {A : BE} {AD : A4} {α : Type} {enc : α -> List DV} {l r : List α} {nt : Nat} {sl : List (Nat × LV)} {h : AS} {c d : Nat} {f : St -> Prop} {hf : IM f} {x : Operand} {t sz : Nat}
theorem AAn {lo hi : Option Operand} {n m : Int} {id k : Nat} (hr : Jz l n m = some r) (ht : Oa AD t sz = true) (hk : k = l.length) (hx : BC nt sl x = .lsl id sz 0 k)
  (hlo : Pl nt sl 0 lo = some n) (hhi : Pl nt sl l.length hi = some m)
  (kk : f ⟨nt, (d, .lsl id sz n.toNat (m - n).toNat) :: sl, h, c⟩) : BB P A AD ⟨nt, sl, h, c⟩ (some d) (.slice t x lo hi none) ⟨f, hf⟩ := by
 obtain ⟨ti, e, te, h1, h2, h3, h4⟩ := Ob ht
 have hs : Jy l n m = some r := hr
 subst hk
 rw [BF (h := h) (c := c)] at hx
 simp only [Jy] at hs
 split at hs
 .rename_i hb
  show Ly AD t _ _ _ _
  rw [hx]
  refine AU.2 ⟨ti, h1, B7.2 ⟨e, h2, AU.2 ⟨te, h3, h4, .inr rfl, ?_⟩⟩⟩
  refine Qb hhi (Qb hlo ⟨hb, ?_⟩)
  rw [Nat.zero_add]; exact kk
 cases hs
end
end Go.E
/- Aj rows cut short; nil cells of own boxes; functions that call themselves. No condition. -/
namespace Go.E
open Go Go.RowKit
section
variable {A : BE} {μ : Nat -> Option BS} {h : List (Nat × BA)} {F : Nat -> Prop} {w : World}
theorem HRel.swap (hh : HRel A μ h F w) {id : Nat} {o o' : BA} (hx : AJ id h = some o) (hor : ∀ loc, μ id = some loc -> Cw (Aj A μ h) μ w loc o -> Cw (Aj A μ h) μ w loc o') :
  HRel A μ (BU id o' h) F w /\ ∀ b, Aj A μ (BU id o' h) b -> Aj A μ h b := by
 have hlook : ∀ j y, AJ j (BU id o' h) = some y -> (j = id /\ y = o') \/ (j ≠ id /\ AJ j h = some y) := by
  intro j y hy
  by_cases e : j = id
  .subst e; rw [Io hx] at hy; cases hy; exact .inl ⟨rfl, rfl⟩
  rw [DP e] at hy; exact .inr ⟨e, hy⟩
 have hmine : ∀ b, Bq μ (BU id o' h) b -> Bq μ h b := by
  rintro b ⟨j, y, lc, h1, h2, h3, h4⟩
  rcases hlook j y h1 with ⟨rfl, rfl⟩ | ⟨_, h1⟩
  .exact ⟨j, o, lc, hx, h2, h3, h4⟩
  exact ⟨j, y, lc, h1, h2, h3, h4⟩
 have hown : ∀ b, Aj A μ (BU id o' h) b -> Aj A μ h b := fun b hb => hb.imp (fun h => h) (hmine b)
 have f : ∀ j y, AJ j (BU id o' h) = some y -> ∃ y, AJ j h = some y := by
  intro j y hy
  rcases hlook j y hy with ⟨rfl, rfl⟩ | ⟨_, hy⟩
  .exact ⟨_, hx⟩
  exact ⟨_, hy⟩
 refine ⟨⟨?_, ?_, hh.fresh, ?_, hh.size, hh.block, hh.os, hh.tape, hh.output, hh.ext⟩, hown⟩
 .intro j y hy
  rcases hlook j y hy with ⟨rfl, rfl⟩ | ⟨e, hy⟩
  .obtain ⟨lc, h1, h2⟩ := hh.obj j o hx
   exact ⟨lc, h1, (hor lc h1 h2).mono (BJ.refl _ _) (fun b _ hb => hown b hb) (fun _ _ h => h) fun _ => rfl⟩
  obtain ⟨lc, h1, h2⟩ := hh.obj j y hy
  exact ⟨lc, h1, h2.mono (BJ.refl _ _) (fun b _ hb => hown b hb) (fun _ _ h => h) fun _ => rfl⟩
 .intro j j' y y' lc lc' h1 h2 m1 m2 n1 n2 he
  obtain ⟨z, hz⟩ := f j y h1
  obtain ⟨z', hz'⟩ := f j' y' h2
  exact hh.inj _ _ _ _ _ _ hz hz' m1 m2 n1 n2 he
 intro j y lc h1 m1 n1
 obtain ⟨z, hz⟩ := f j y h1
 exact hh.base _ _ _ hz m1 n1
end
section
variable {A : BE} {nt : Nat} {sl : List (Nat × LV)} {h h' : AS} {c : Nat}
theorem Zi {id : Nat} {o o' : BA} (hx : AJ id h = some o) (hor : ∀ O μ w loc, Cw O μ w loc o -> Cw O μ w loc o') : A8 A ⟨nt, sl, h, c⟩ ⟨nt, sl, BU id o' h, c⟩ := fun a w ⟨⟨μ, hh, hr⟩, hnt, hdef⟩ => by
 obtain ⟨g1, g2⟩ := hh.swap hx (o' := o') fun loc _ => hor _ _ _ loc
 exact ⟨⟨μ, g1, fun t ht => (hr t ht).mono (BJ.refl _ _) (fun b _ hb => g2 b hb) fun _ _ h => h⟩, hnt, hdef⟩
theorem J9 {α : Type} {enc : α -> List DV} (id : Nat) {e sz : Nat} {l r : List α} {m : Int} (hr : Jz l 0 m = some r) (hl : Be id h = some (.row e sz (l.map enc)))
  (hu : J1 id (.row e sz (r.map enc)) h some = some h') : A8 A ⟨nt, sl, h, c⟩ ⟨nt, sl, h', c⟩ := by
 rw [BL] at hl
 rw [Ff, Option.some.injEq] at hu
 subst hu
 refine Zi hl fun O μ w loc ⟨h1, h2, h3⟩ => ?_
 obtain ⟨-, hr⟩ := VW hr
 have hk : r = l.take (m - 0).toNat := by rw [<- hr]; rfl
 generalize (m - 0).toNat = k at hk
 subst hk
 refine ⟨h1, fun x hx => h2 x ?_, ?_⟩
 .obtain ⟨a, ha, rfl⟩ := List.mem_map.1 hx
  exact List.mem_map.2 ⟨a, List.mem_of_mem_take ha, rfl⟩
 rcases h3 with ⟨h3, h4⟩ | ⟨h3, cs, h4, h5, h6, h7, h8⟩
 .refine .inl ⟨h3, ?_⟩
  rw [List.map_take, h4]; simp
 refine .inr ⟨h3, cs, h4, h5, ?_, h7, fun i j x d v hx => h8 i j x d v ?_⟩
 .rw [List.length_map] at h6 ⊢
  rw [List.length_take]; omega
 rw [List.map_take, List.getElem?_take] at hx
 split at hx
 .exact hx
 cases hx
theorem B8 (id j e sz : Nat) {cells cells' : List LV} (hl : Be id h = some (.box cells)) (hj : cells[j]? = some (.p .nils)) (hc : cells.set j (.lsl c sz 0 0) = cells')
  (hu : J1 id (.box cells') h some = some h') : A8 A ⟨nt, sl, h, c⟩ ⟨nt, sl, (c, .row e sz []) :: h', c + 1⟩ := fun a w ⟨⟨μ, hh, hr⟩, hnt, hdef⟩ => by
 rw [BL] at hl
 rw [Ff, Option.some.injEq] at hu
 subst hu hc
 have hno := hh.fresh c (Nat.le_refl _)
 let loc : BS := ⟨true, 0, 0, sz, 0⟩
 have hsub : ∀ id x, AJ id ((c, BA.row e sz []) :: h) = some x -> (id = c /\ x = .row e sz []) \/ AJ id h = some x := by
  intro id x hx
  simp only [AJ] at hx
  split at hx
  .cases hx; exact .inl ⟨‹_›, rfl⟩
  exact .inr hx
 have hadd := hh.add hno loc (.row e sz []) ((c, .row e sz []) :: h) (fun hn => by cases hn) (fun hn => by cases hn) hsub (BJ.refl _ _) (fun _ _ _ _ _ _ _ => rfl) rfl rfl rfl ⟨rfl, by simp, .inl ⟨rfl, rfl⟩⟩
 have hown := hh.sub_add loc (.row e sz []) ((c, .row e sz []) :: h) (fun hn => by cases hn) hsub
 have hadd' := hadd.less (F' := Fr (c + 1)) fun id hid => by simp only [Fr] at hid ⊢; omega
 have hne : id ≠ c := hh.live_ne hno hl
 have hl' : AJ id ((c, BA.row e sz []) :: h) = some (.box cells) := by simp only [AJ, if_neg hne]; exact hl
 obtain ⟨g1, g2⟩ := hadd'.swap hl' (o' := .box (cells.set j (.lsl c sz 0 0))) fun lc _ ⟨k1, cs, t, k2, k3, k4⟩ => by
  refine ⟨k1, cs, t, k2, by rw [List.length_set]; exact k3, fun i v l hv hl => ?_⟩
  rw [List.getElem?_set] at hl
  split at hl
  .split at hl
   .cases hl
    subst_vars
    have := k4 _ v _ hv hj
    rw [this.nils_inv]
    exact .lsln c loc (by simp [Br]) rfl
   cases hl
  exact k4 i v l hv hl
 have hup : BU id (.box (cells.set j (.lsl c sz 0 0))) ((c, BA.row e sz []) :: h) = (c, .row e sz []) :: BU id (.box (cells.set j (.lsl c sz 0 0))) h := by
  simp only [BU, if_neg hne]
 rw [hup] at g1 g2
 exact ⟨⟨_, g1, fun u hu => (hr u hu).mono (BJ.refl _ _) (fun b hb hb' => hown b hb (g2 b hb')) (KL hno loc)⟩, hnt, hdef⟩
end
section
variable {P : Program} {A : BE} {AD : A4} {α : Type} {enc : α -> List DV} {l r : List α} {nt : Nat} {sl : List (Nat × LV)} {h : AS} {c d : Nat} {f : St -> Prop} {hf : IM f} {x : Operand} {t sz : Nat}
theorem SN {hi : Option Operand} {m : Int} {id k : Nat} (hr : Jz l 0 m = some r) (ht : Oa AD t sz = true) (hk : k = l.length) (hx : BC nt sl x = .lsl id sz 0 k)
  (hhi : Pl nt sl l.length hi = some m)
  (kk : f ⟨nt, (d, .lsl id sz 0 r.length) :: sl, h, c⟩) : BB P A AD ⟨nt, sl, h, c⟩ (some d) (.slice t x none hi none) ⟨f, hf⟩ := by
 refine AAn (lo := none) hr ht hk hx rfl hhi ?_
 have e : (m - 0).toNat = r.length := by
  obtain ⟨h1, h2⟩ := VW hr
  rw [<- h2]
  simp at h1 ⊢; omega
 rw [e]
 exact kk
end
section
variable (id : Nat) (src d : LV)
mutual
inductive QQ : LV -> LV -> Prop
 | same (v : LV) : QQ v v
 | hit : QQ src d
 | nil (z : Nat) : QQ (.p .nils) (.p (.slice z []))
 | agg {a b : List LV} : Qn a b -> QQ (.agg a) (.agg b)
inductive Qn : List LV -> List LV -> Prop
 | nil : Qn [] []
 | cons {x y : LV} {a b : List LV} : QQ x y -> Qn a b -> Qn (x :: a) (y :: b)
end
inductive Ri (sl : List (Nat × LV)) : List (Nat × LV) -> Prop
 | nil : Ri sl []
 | cons (t : Nat) {v : LV} {r : List (Nat × LV)} : QQ src d (Bc sl t) v -> Ri sl r -> Ri sl ((t, v) :: r)
inductive Yi : BA -> BA -> Prop
 | same (o : BA) : Yi o o
 | box {a b : List LV} : Qn src d a b -> Yi (.box a) (.box b)
inductive Rj (h : AS) : AS -> Prop
 | nil : Rj h []
 | cons (i : Nat) {o o' : BA} {r : AS} (hne : Nat.beq i id = false) (hl : Be i h = some o) : Yi src d o o' -> Rj h r -> Rj h ((i, o') :: r)
end
section
variable {A : BE} {nt : Nat} {sl sl' : List (Nat × LV)} {h h' : AS} {c : Nat} {id : Nat} {src d : LV}
mutual
theorem V8 {O O' : Nat -> Prop} {μ μ' : Nat -> Option BS} {w : World} (hμ : ∀ id l, μ id = some l -> μ' id = some l) (hO : ∀ b, b < w.heap.size -> O' b -> O b) (hd : ∀ v, Ah O μ w v src -> Ah O' μ' w v d) : ∀ {x y : LV}, QQ src d x y -> ∀ v, Ah O μ w v x -> Ah O' μ' w v y
 | _, _, .same _, v, h => h.mono (BJ.refl _ _) hO hμ
 | _, _, .hit, v, h => hd v h
 | _, _, .nil z, v, h => by
  rw [h.nils_inv]
  exact .p _ _ (.snil z)
 | _, _, .agg (a := ls) (b := b) q, v, h => by
  cases h with
  | agg vs _ hsz hr =>
   obtain ⟨g1, g2⟩ := QR hμ hO hd q
   exact .agg vs _ (by omega) fun i v l hv hl => by
    have hi := (List.getElem?_eq_some_iff.1 hl).1
    obtain ⟨x, hx⟩ : ∃ x, ls[i]? = some x := ⟨ls[i]'(by omega), List.getElem?_eq_getElem _⟩
    exact g2 i x l hx hl v (hr i v x hv hx)
theorem QR {O O' : Nat -> Prop} {μ μ' : Nat -> Option BS} {w : World} (hμ : ∀ id l, μ id = some l -> μ' id = some l) (hO : ∀ b, b < w.heap.size -> O' b -> O b) (hd : ∀ v, Ah O μ w v src -> Ah O' μ' w v d) : ∀ {a b : List LV}, Qn src d a b -> a.length = b.length /\ ∀ (i : Nat) (x y : LV), a[i]? = some x -> b[i]? = some y -> ∀ v, Ah O μ w v x -> Ah O' μ' w v y
 | _, _, .nil => ⟨rfl, fun i x y h => by simp at h⟩
 | _, _, .cons q r => by
  obtain ⟨g1, g2⟩ := QR hμ hO hd r
  refine ⟨by simp [g1], fun i x y hx hy => ?_⟩
  cases i with
  | zero => simp at hx hy; subst hx hy; exact V8 hμ hO hd q
  | succ i => exact g2 i x y (by simpa using hx) (by simpa using hy)
end
theorem UB : ∀ {sl' : List (Nat × LV)}, Ri src d sl sl' -> ∀ t l, AJ t sl' = some l -> QQ src d (Bc sl t) l
 | _, .nil, t, l, h => by simp [AJ] at h
 | _, .cons u q r, t, l, h => by
  simp only [AJ] at h
  split at h
  .cases h; subst_vars; exact q
  exact UB r t l h
theorem UC : ∀ {h' : AS}, Rj id src d h h' -> ∀ i o', AJ i h' = some o' -> i ≠ id /\ ∃ o, AJ i h = some o /\ Yi src d o o'
 | _, .nil, i, o, h => by simp [AJ] at h
 | _, .cons u hne hl q r, i, o, h => by
  simp only [AJ] at h
  split at h
  .cases h; subst_vars
   rw [BL] at hl
   exact ⟨fun e => by subst e; simp at hne, _, hl, q⟩
  exact UC r i o h
theorem UD (id : Nat) {d0 : DV} (hd : ∀ μ w (O' : Nat -> Prop), HRel A μ h (Fr c) w -> (∀ b, O' b -> Aj A μ (B9 [id] h) b) -> ∀ v, Ah (Aj A μ h) μ w v src -> Av O' w v d0) (hs : Ri src (.p d0) sl sl') (hh : Rj id src (.p d0) h h') : A8 A ⟨nt, sl, h, c⟩ ⟨nt, sl', h', c⟩ := fun a w ⟨⟨μ, hR, hr⟩, hnt, hdef⟩ => by
 have hlk := fun i o' => UC hh i o'
 have hmine : ∀ b, Bq μ h' b -> Bq μ (B9 [id] h) b := by
  rintro b ⟨j, y, lc, h1, h2, h3, h4⟩
  obtain ⟨g1, o, g2, -⟩ := hlk j y h1
  refine ⟨j, o, lc, ?_, h2, h3, h4⟩
  show AJ j (G2 id h) = some o
  rw [Fg g1]; exact g2
 have hown1 : ∀ b, Aj A μ h' b -> Aj A μ (B9 [id] h) b := fun b hb => hb.imp (fun h => h) (hmine b)
 have hown : ∀ b, Aj A μ h' b -> Aj A μ h b := fun b hb => GA b (hown1 b hb)
 have hp : ∀ v, Ah (Aj A μ h) μ w v src -> Ah (Aj A μ h') μ w v (.p d0) := fun v hv => .p _ _ (hd μ w _ hR hown1 v hv)
 refine ⟨⟨μ, ⟨?_, ?_, hR.fresh, ?_, hR.size, hR.block, hR.os, hR.tape, hR.output, hR.ext⟩, fun t ht => ?_⟩, hnt, hdef⟩
 .intro j o' hj
  obtain ⟨g1, o, g2, q⟩ := hlk j o' hj
  obtain ⟨lc, h1, h2⟩ := hR.obj j o g2
  refine ⟨lc, h1, ?_⟩
  cases q with
  | same _ => exact h2.mono (BJ.refl _ _) (fun b _ hb => hown b hb) (fun _ _ h => h) fun _ => rfl
  | box q =>
   obtain ⟨k1, cs, ty, k2, k3, k4⟩ := h2
   obtain ⟨q1, q2⟩ := QR (O' := Aj A μ h') (w := w) (fun _ _ h => h) (fun b _ hb => hown b hb) hp q
   refine ⟨k1, cs, ty, k2, by omega, fun i v l hv hl => ?_⟩
   have hi := (List.getElem?_eq_some_iff.1 hl).1
   rename_i a b
   have hx : a[i]? = some (a[i]'(by omega)) := List.getElem?_eq_getElem _
   exact q2 i _ l hx hl v (k4 i v _ hv hx)
 .intro j j' y y' lc lc' h1 h2 m1 m2 n1 n2 he
  obtain ⟨-, z, hz, -⟩ := hlk j y h1
  obtain ⟨-, z', hz', -⟩ := hlk j' y' h2
  exact hR.inj _ _ _ _ _ _ hz hz' m1 m2 n1 n2 he
 .intro j y lc h1 m1 n1
  obtain ⟨-, z, hz, -⟩ := hlk j y h1
  exact hR.base _ _ _ hz m1 n1
 show Ah _ _ _ _ (match AJ t sl' with | some v => v | none => .any)
 cases hl : AJ t sl' with
 | none => exact .any _
 | some l => exact V8 (fun _ _ h => h) (fun b _ hb => hown b hb) hp (UB hs t l hl) _ (hr t ht)
theorem KC (id : Nat) {d0 : DV} (hd : Fc h src = some d0 /\ JG src = [id]) (hs : Ri src (.p d0) sl sl') (hh : Rj id src (.p d0) h h') : A8 A ⟨nt, sl, h, c⟩ ⟨nt, sl', h', c⟩ :=
 UD id (fun μ w O' hR hown v hv => (MV hR (l := [id]) hv hd.1 (by rw [hd.2]; simp)).mono (BJ.refl _ _) fun b _ hb => hown b hb) hs hh
theorem AAe {O : Nat -> Prop} {μ : Nat -> Option BS} {w : World} {v : Value} {id sz off n : Nat} (h : Ah O μ w v (.lsl id sz off n)) : ∃ loc, μ id = some loc := by
 cases h with
 | lsln _ loc hm hn => exact ⟨loc, hm⟩
 | lsl _ _ _ cap a loc hm => exact ⟨loc, hm⟩
theorem FK (hs : Ri (.lsl c 0 0 0) (.p .nils) sl sl') (hh : Rj c (.lsl c 0 0 0) (.p .nils) h h') : A8 A ⟨nt, sl, h, c⟩ ⟨nt, sl', h', c⟩ :=
 UD c (fun μ w O' hR hown v hv => by
  have hno := hR.fresh c (Nat.le_refl _)
  obtain ⟨loc, hm⟩ := AAe hv
  rw [hno] at hm; cases hm) hs hh
theorem Nw {α : Type} {enc : α -> List DV} {l : List α} {e : Nat} {sz : Nat} (hl : Be id h = some (.row e sz (l.map enc))) : Fc h (.lsl id sz 0 l.length) = some (.slice sz (l.map enc)) /\ JG (.lsl id sz 0 l.length) = [id] := by
 refine ⟨?_, rfl⟩
 rw [BL] at hl
 simp only [Fc, hl, Nat.zero_add, List.length_map, Nat.le_refl, and_self, if_true, List.drop_zero]
 rw [List.take_of_length_le (by simp)]
end
section
variable {P : Program} {A : BE} {AD : A4}
theorem C0.ownF {h : AS} {ctr k : Nat} {args : List LV} {ds : List DV} {e sz : Nat} {elems : List (List DV)} {K : LV -> AS -> Nat -> Prop} (hds : Bz h args = some ds) (hf : HK P k ds e sz elems)
  (hfl : ∀ x ∈ elems, ∀ d ∈ x, d.flat = true) (hK : K (.lsl ctr sz 0 elems.length) ((ctr, .row e sz elems) :: h) (ctr + 1)) : C0 P A h ctr k args K := by
 refine ⟨hf.enters, fun μ w vs hh hsz hr => ?_⟩
 obtain ⟨g1, g2⟩ := FV hh (l := args.flatMap (EX h)) hds (fun id hid => hid)
 generalize args.flatMap (EX h) = dl at g2
 have hO : ∀ b, Aj A μ (B9 dl h) b -> b < w.heap.size := by
  intro b hb
  rcases GA b hb with hb | ⟨id, x, lc, h1, h2, h3, rfl⟩
  .exact Nat.lt_of_lt_of_le (A.hO b hb).1 hh.size
  exact (hh.base id x lc h1 h2 h3).1
 refine (hf.run (Aj A μ (B9 dl h)) w vs hO (by omega) fun i v d hv hd => ?_).mono fun en w' ⟨v, he, hn, hb⟩ => ?_
 .have hi := (List.getElem?_eq_some_iff.1 hd).1
  have hx : args[i]? = some (args[i]'(by omega)) := List.getElem?_eq_getElem _
  exact g2 i v _ d hx hd (hr i v _ hv hx)
 have hno : μ ctr = none := hh.fresh ctr (Nat.le_refl _)
 obtain ⟨hlen, hn⟩ := hn
 have hkm : BJ (Bq μ h) w w' := ⟨hb.size, fun b hb' _ => hb.block b hb'⟩
 have hsub : ∀ id x, AJ id ((ctr, BA.row e sz elems) :: h) = some x -> (id = ctr /\ x = .row e sz elems) \/ AJ id h = some x := by
  intro id x hx
  simp only [AJ] at hx
  split at hx
  .cases hx; exact .inl ⟨‹_›, rfl⟩
  exact .inr hx
 have hold : ∀ id x lc, AJ id ((ctr, BA.row e sz elems) :: h) = some x -> id ≠ ctr -> μ id = some lc -> lc.nil = false -> w'.heap[lc.b]? = w.heap[lc.b]? := by
  intro id x lc hx hne hm hnl
  rcases hsub id x hx with ⟨rfl, _⟩ | hx
  .exact absurd rfl hne
  exact hb.block _ (hh.base id x lc hx hm hnl).1
 have fin : ∀ (loc : BS), (loc.nil = false -> loc.b < w'.heap.size /\ w.heap.size <= loc.b) ->
   (∀ O' : Nat -> Prop, Cw O' (Br μ ctr loc) w' loc (.row e sz elems)) ->
   (∀ O', Ah O' (Br μ ctr loc) w' v (.lsl ctr sz 0 elems.length)) ->
   ∃ u l h' c' μ', en = .returned u /\ K l h' c' /\ HRel A μ' h' (Fr c') w' /\ Ah (Aj A μ' h') μ' w' u l /\ ∀ v x, Ah (Aj A μ h) μ w v x -> Ah (Aj A μ' h') μ' w' v x := by
  intro loc hloc ho hu
  have hfr : OD μ h ((ctr, BA.row e sz elems) :: h) w loc := fun hn => .inl (hloc hn).2
  have hown := hh.sub_add loc (.row e sz elems) ((ctr, .row e sz elems) :: h) hfr hsub
  have hadd := hh.add (w' := w') hno loc (.row e sz elems) ((ctr, .row e sz elems) :: h) (fun hn => (hloc hn).1) hfr hsub hkm hold hb.os hb.tape hb.output (ho _)
  exact ⟨v, _, _, _, _, he, hK, hadd.less (fun id hid => by simp only [Fr] at hid ⊢; omega), hu _, fun v x hv => hv.mono hkm.own hown (KL hno loc)⟩
 rcases hn with ⟨rfl, rfl⟩ | ⟨a, b, o, cap, c, rfl, h1, h2, h3, h4, h5, h6, h7, h8, h9, h10⟩
 .exact fin ⟨true, 0, 0, sz, 0⟩ (fun hn => by cases hn) (fun O' => ⟨rfl, hlen, .inl ⟨rfl, rfl⟩⟩) (fun O' => .lsln ctr ⟨true, 0, 0, sz, 0⟩ (by simp [Br]) rfl)
 refine fin ⟨false, b, o, sz, cap⟩ (fun _ => ⟨h2, h1⟩) (fun O' => ⟨rfl, hlen, .inr ⟨rfl, c, h6, h7, h8, h9, fun i j x d u hx hd hu => ?_⟩⟩) (fun O' => ?_)
 .exact (h10 i j x d u hx hd hu).flat (hfl x (List.mem_of_getElem? hx) d (List.mem_of_getElem? hd)) _ _
 exact .lsl ctr 0 elems.length cap a ⟨false, b, o, sz, cap⟩ (by simp [Br]) rfl (by simp) h8 (fun hc => by rw [h3 hc]; simp) h4 h5
end
section
variable {P : Program} {A : BE} {AD : A4} {α : Type} {enc : α -> List DV} {nt : Nat} {sl : List (Nat × LV)} {h : AS} {c d : Nat} {f : St -> Prop} {hf : IM f}
theorem Oi {fo : Operand} {args : Array Operand} {ts : Array TypeId} {k e sz : Nat} {caps ls : List LV} {ds : List DV} {r : List α} (hF : HK P k ds e sz (r.map enc)) (hfl : ∀ x : α, (enc x).all (·.flat) = true)
  (hfn : BC nt sl fo = .fn k caps) (hl : Ea nt sl args.toList some = some ls) (hds : Bz h (ls ++ caps) = some ds)
  (kk : f ⟨nt, (d, .lsl c sz 0 r.length) :: sl, (c, .row e sz (r.map enc)) :: h, c + 1⟩) : BB P A AD ⟨nt, sl, h, c⟩ (some d) (.call ⟨.value fo, args, ts⟩) ⟨f, hf⟩ := by
 rw [BF (h := h) (c := c)] at hfn
 show PB _ _
 rw [hfn]
 show KQ P A h c k (args.toList.map _ ++ caps) _
 rw [I3 hl]
 refine C0.ownF hds hF (fun x hx d hd => ?_) ?_
 .obtain ⟨a, _, rfl⟩ := List.mem_map.1 hx
  exact List.all_eq_true.1 (hfl a) d hd
 rw [List.length_map]
 exact kk
end
theorem AAK {A : BE} {nt : Nat} {sl : List (Nat × LV)} {h : AS} {c : Nat} (t : Nat) {k : Nat} {ds : List DV} (ht : Bc sl t = .p (.fn k ds)) : A8 A ⟨nt, sl, h, c⟩ ⟨nt, (t, .fn k (ds.map .p)) :: sl, h, c⟩ := fun a w ⟨⟨μ, hh, hr⟩, hnt, hdef⟩ => by
 refine ⟨⟨μ, hh, fun u hu => ?_⟩, hnt, hdef⟩
 show Ah _ _ _ _ (match AJ u ((t, LV.fn k (ds.map .p)) :: sl) with | some v => v | none => .any)
 simp only [AJ]
 by_cases hut : u = t
 .subst hut
  rw [if_pos rfl]
  have := hr u hu
  simp only at this
  rw [ht] at this
  have hp := this.p_inv
  generalize a.tmps.getD u undef = v at hp
  cases hp with
  | fn _ caps _ hsz q =>
   refine .fn k caps _ (by simpa using hsz) fun i v l hv hl => ?_
   simp only [List.getElem?_map, Option.map_eq_some_iff] at hl
   obtain ⟨d, hd, rfl⟩ := hl
   exact .p _ _ (q i v d hv hd)
 rw [if_neg hut]
 exact hr u hu
end Go.E
/- Drawn regions of which the orders do not all come to one by waiting: a tree of orders. No condition. -/
namespace Go.E
open Go Go.RowKit
inductive Jx where
 | done
 | nil
 | picks (l : List Nat) (t : Jx)
 | alt (i : Nat) (l : List Nat) (t r : Jx)
def MR (listed : Array Bool) : List Nat -> Array Bool
 | [] => listed
 | i :: l => MR (listed.setIfInBounds i true) l
def JF (q w : Bool) (md : Region.Mode) (ops : Array Oper) : List Nat -> Array Bool -> Bool
 | [], _ => true
 | i :: rest, listed => (match ops[i]? with
  | none => false
  | some oi => (Region.ready md ops listed == [i]) || ((Region.ready md ops listed).contains i && QV q w md ops listed i oi (OL md ops listed i))) &&
  JF q w md ops rest (listed.setIfInBounds i true)
def Jx.heads : Jx -> List Nat
 | .alt i _ _ r => i :: r.heads
 | _ => []
def MS (q w : Bool) (md : Region.Mode) (ops : Array Oper) : Jx -> Bool -> Array Bool -> Nat -> Bool
 | .done, b, listed, n => !b && (Region.ready md ops listed).isEmpty && n == 0
 | .nil, b, _, _ => b
 | .picks l t, b, listed, n => !b && JF q w md ops l listed && decide (l.length <= n) && MS q w md ops t false (MR listed l) (n - l.length)
 | .alt i l t r, b, listed, n => (b || decide (0 < n) && !(Region.ready md ops listed).isEmpty && (Region.ready md ops listed).all fun j => (i :: r.heads).contains j) &&
   (decide (i < ops.size) && JF q w md ops l (listed.setIfInBounds i true) && decide (l.length <= (bif b then n else n - 1)) &&
    MS q w md ops t false (MR (listed.setIfInBounds i true) l) ((bif b then n else n - 1) - l.length) && MS q w md ops r true listed (bif b then n else n - 1))
section
variable (P : Program) (A : BE) (AD : A4) (base n : Nat) (K : St -> Prop) (ops : List Oper)
def PK : Jx -> St -> Prop
 | .done, st => K st
 | .nil, _ => True
 | .picks l t, st => DL P A AD base n ⟨PK t, ⟨⟩⟩ (G6 ops l) st
 | .alt i l t r, st => DL P A AD base n ⟨PK t, ⟨⟩⟩ (G6 ops (i :: l)) st /\ PK r st
end
section
variable {P : Program} {A : BE} {AD : A4} {md : Region.Mode} {base : Nat} {K : St -> Prop}
theorem ACq {ops : List Oper} {n : Nat} {l : List Nat} {t : Jx} {st : St} (k : DL P A AD base n ⟨PK P A AD base n K ops t, ⟨⟩⟩ (G6 ops l) st) : PK P A AD base n K ops (.picks l t) st := k
theorem AAo {ops : List Oper} {n : Nat} {i : Nat} {l : List Nat} {t r : Jx} {st : St} (k : DL P A AD base n ⟨PK P A AD base n K ops t, ⟨⟩⟩ (G6 ops (i :: l)) st) (k' : PK P A AD base n K ops r st) : PK P A AD base n K ops (.alt i l t r) st := ⟨k, k'⟩
theorem AAp {ops : List Oper} {n c c' nt : Nat} {sl : List (Nat × LV)} {h : AS} {S : St} (k : A8 A ⟨nt, sl, h, c + n⟩ S) : PK P A AD c n (fun st => A8 A { st with ctr := c + n } S) ops .done ⟨nt, sl, h, c'⟩ := k
theorem ACr {ops : List Oper} {n : Nat} {st : St} : PK P A AD base n K ops .nil st := trivial
theorem Rm {q w : Bool} {ops : Array Oper} : ∀ {l : List Nat} {listed : Array Bool}, JF q w md ops l listed = true -> ∀ i ∈ l, i < ops.size
 | [], _, _, i, hi => by simp at hi
 | j :: l, listed, h, i, hi => by
  simp only [JF, Bool.and_eq_true] at h
  rcases List.mem_cons.1 hi with rfl | hi
  .cases ho : ops[i]? with
   | none => rw [ho] at h; simp at h
   | some o => exact (Array.getElem?_eq_some_iff.1 ho).1
  exact Rm h.2 i hi
theorem O9 (q : Bool) (hq : q = true -> ∃ b, AD.calm = some b) {ops : Array Oper} {T Q : St -> Prop} (fuel : Nat) : ∀ (l : List Nat) (listed : Array Bool) (st : St), JF q AD.own md ops l listed = true -> (∀ k, listed.getD k true = false -> AJ (base + k) st.heap = none) ->
  (∀ st', (∀ k, (MR listed l).getD k true = false -> AJ (base + k) st'.heap = none) -> T st' -> Iy P AD md ops base Q fuel (MR listed l) st') ->
  G5 P AD ops base T l st -> Iy P AD md ops base Q (l.length + fuel) listed st
 | [], listed, st, _, hfresh, hT, h => by
  rw [List.length_nil, Nat.zero_add]
  exact hT st hfresh h
 | i :: rest, listed, st, hok, hfresh, hT, h => by
  obtain ⟨o, l, e, ho, hd, hrest⟩ := OM h
  simp only [JF, ho, Bool.and_eq_true, Bool.or_eq_true] at hok
  have hrec : Iy P AD md ops base Q (rest.length + fuel) (listed.setIfInBounds i true) (apS st (base + i) o l e) := by
   refine O9 q hq fuel rest _ _ hok.2 (fun k hk => ?_) hT hrest
   have hik : i ≠ k := by
    rintro rfl
    rcases Nat.lt_or_ge i listed.size with h' | h'
    .simp [h'] at hk
    simp [Array.getElem?_eq_none h'] at hk
   rw [Bg]
   exact MW hd (by simp only [St.at]; omega) (hfresh k (by rw [getD_set_ne true hik] at hk; exact hk))
  rw [show (i :: rest).length + fuel = rest.length + fuel + 1 by simp; omega]
  rcases hok.1 with h1 | h1
  .have hr : Region.ready md ops listed = [i] := by simpa using h1
   refine ⟨fun h0 => (by rw [hr] at h0; cases h0), fun j hj => ?_⟩
   rw [hr] at hj
   simp at hj
   subst hj
   exact ⟨o, l, e, ho, hd, hrec⟩
  obtain ⟨h1, h2⟩ := h1
  simp only [QV, Bool.and_eq_true, List.all_eq_true, List.mem_range] at h2
  obtain ⟨h2, h3⟩ := h2
  generalize hBe : OL md ops listed i = B at h2 h3
  refine Rz q hq ho (fun j => B.contains j) (fun j hj => ?_) (rest.length + fuel) listed st (fun j hj => ?_) (fun j oj hoj hji hun hBj => ?_) hfresh (by simpa using h1) hd hrec
  .have := h2 j (by simpa using hj)
   obtain ⟨⟨a1, a2⟩, a3⟩ := this
   refine ⟨by simpa using a1, fun oj hoj => ?_⟩
   rw [hoj] at a3
   obtain ⟨x, hx, hx2⟩ := Array.any_eq_true'.1 a3
   simp only [Bool.and_eq_true, Bool.or_eq_true, beq_iff_eq] at hx2
   exact ⟨x, hx, hx2.1, hx2.2⟩
  .have := (h2 j (by simpa using hj)).1.2
   simpa using this
  have := h3 j (Array.getElem?_eq_some_iff.1 hoj).1
  simp only [Bool.or_eq_true, beq_iff_eq, hji, false_or, hun, Bool.false_eq_true] at this
  rw [hBj] at this
  simp only [Bool.false_eq_true, false_or, hoj, Bool.and_eq_true] at this
  refine ⟨this.1, this.2.1, fun ho => ?_⟩
  have := this.2.2
  rw [ho] at this; simpa using this
theorem Mw (q : Bool) (hq : q = true -> ∃ b, AD.calm = some b) {ops : List Oper} : ∀ (T : Jx) (listed : Array Bool) (st : St) (n : Nat), (∀ k, listed.getD k true = false -> AJ (base + k) st.heap = none) -> PK P A AD base ops.length K ops T st ->
  (MS q AD.own md ops.toArray T false listed n = true -> Iy P AD md ops.toArray base K n listed st) /\
  (MS q AD.own md ops.toArray T true listed n = true -> ∀ i ∈ T.heads, ∃ o l e, ops.toArray[i]? = some o /\ Cm P AD ops.toArray (st.at (base + i)) o l e /\ Iy P AD md ops.toArray base K n (listed.setIfInBounds i true) (apS st (base + i) o l e))
 | .done, listed, st, n, hfresh, h => by
  refine ⟨fun hok => ?_, fun hok => by simp [MS] at hok⟩
  simp only [MS, Bool.not_false, Bool.true_and, Bool.and_eq_true, beq_iff_eq, List.isEmpty_iff] at hok
  obtain ⟨h1, rfl⟩ := hok
  exact ⟨h1, st, GS.refl st, h⟩
 | .nil, listed, st, n, hfresh, h => ⟨fun hok => by simp [MS] at hok, fun _ i hi => by simp [Jx.heads] at hi⟩
 | .picks l t, listed, st, n, hfresh, h => by
  refine ⟨fun hok => ?_, fun hok => by simp [MS] at hok⟩
  simp only [MS, Bool.not_false, Bool.true_and, Bool.and_eq_true, decide_eq_true_eq] at hok
  obtain ⟨⟨h1, h2⟩, h3⟩ := hok
  have hb : (l.all fun i => decide (i < ops.length)) = true := List.all_eq_true.2 fun i hi => by simpa using Rm h1 i hi
  have := O9 q hq (md := md) (Q := K) (n - l.length) l listed st h1 hfresh (fun st' hf' hT => ?_) (Kn l st hb h)
  .rwa [show l.length + (n - l.length) = n by omega] at this
  refine OK _ _ { st' with ctr := base + ops.length } _ ⟨rfl, fun _ => rfl, fun _ => rfl⟩ ?_
  exact (Mw q hq t (MR listed l) { st' with ctr := base + ops.length } (n - l.length) hf' hT).1 h3
 | .alt i l t r, listed, st, n, hfresh, ⟨h, h'⟩ => by
  have key : ∀ m, (decide (i < ops.toArray.size) && JF q AD.own md ops.toArray l (listed.setIfInBounds i true) && decide (l.length <= m) && MS q AD.own md ops.toArray t false (MR (listed.setIfInBounds i true) l) (m - l.length) && MS q AD.own md ops.toArray r true listed m) = true ->
    ∀ j ∈ i :: r.heads, ∃ o l e, ops.toArray[j]? = some o /\ Cm P AD ops.toArray (st.at (base + j)) o l e /\ Iy P AD md ops.toArray base K m (listed.setIfInBounds j true) (apS st (base + j) o l e) := by
   intro m hok j hj
   simp only [Bool.and_eq_true, decide_eq_true_eq] at hok
   obtain ⟨⟨⟨⟨h0, h1⟩, h2⟩, h3⟩, h4⟩ := hok
   rcases List.mem_cons.1 hj with rfl | hj
   .have hb : ((j :: l).all fun i => decide (i < ops.length)) = true := List.all_eq_true.2 fun i hi => by
     rcases List.mem_cons.1 hi with rfl | hi
     .simpa using h0
     simpa using Rm h1 i hi
    obtain ⟨o, lv, e, ho, hd, hrest⟩ := OM (Kn (j :: l) st hb h)
    refine ⟨o, lv, e, ho, hd, ?_⟩
    have := O9 q hq (md := md) (Q := K) (m - l.length) l (listed.setIfInBounds j true) (apS st (base + j) o lv e) h1 (fun k hk => ?_) (fun st' hf' hT => ?_) hrest
    .rwa [show l.length + (m - l.length) = m by omega] at this
    .have hik : j ≠ k := by
      rintro rfl
      rcases Nat.lt_or_ge j listed.size with h' | h'
      .simp [h'] at hk
      simp [Array.getElem?_eq_none h'] at hk
     rw [Bg]
     exact MW hd (by simp only [St.at]; omega) (hfresh k (by rw [getD_set_ne true hik] at hk; exact hk))
    refine OK _ _ { st' with ctr := base + ops.length } _ ⟨rfl, fun _ => rfl, fun _ => rfl⟩ ?_
    exact (Mw q hq t _ { st' with ctr := base + ops.length } (m - l.length) hf' hT).1 h3
   exact (Mw q hq r listed st m hfresh h').2 h4 j hj
  refine ⟨fun hok => ?_, fun hok => ?_⟩
  .rw [MS, Bool.false_or] at hok
   obtain ⟨h1, h2⟩ := Bool.and_eq_true_iff.1 hok
   simp only [Bool.and_eq_true, decide_eq_true_eq, Bool.not_eq_true', List.all_eq_true] at h1
   obtain ⟨⟨h3, h4⟩, h5⟩ := h1
   obtain ⟨m, rfl⟩ : ∃ m, n = m + 1 := ⟨n - 1, by omega⟩
   refine ⟨fun h0 => by rw [h0] at h4; simp at h4, fun j hj => ?_⟩
   exact key m (by simpa using h2) j (by simpa using h5 j hj)
  simp only [MS, Bool.true_or, Bool.true_and, cond_true] at hok
  exact key n hok
theorem ADM (hE : BD P AD) (hm : P.follows .mixedOrders = true) {id : Nat} {ops : List Oper} {Q : Exit -> St -> Prop} {nt : Nat} {sl : List (Nat × LV)} {h : AS} {c : Nat} (T : Jx) (n : Nat) (S : St)
  (hok : MS false AD.own .any ops.toArray T false (Array.replicate ops.length false) ops.length = true) (hn : Nat.beq ops.length n = true)
  (k : PK P A AD c n (fun st => A8 A { st with ctr := c + n } S) ops T ⟨nt, sl, h, c⟩) (kk : Q .normal S) : B5 P A (.region id ops.toArray true) Q ⟨nt, sl, h, c⟩ := fun a w hR => by
 have hn' := Nat.eq_of_beq_eq_true hn
 subst hn'
 refine wp_region_any hm ?_
 have hR' := (hR.drawn (w.drawn + 1)).toRF
 have hfr : ∀ k, AJ (c + k) h = none := by
  intro k
  cases hx : AJ (c + k) h with
  | none => rfl
  | some o =>
   obtain ⟨⟨μ, hh, _⟩, _, _⟩ := hR
   obtain ⟨loc, h1, _⟩ := hh.obj _ _ hx
   rw [hh.fresh _ (by simp [Fr])] at h1; cases h1
 have hD := (Mw false (fun h => by cases h) (md := .any) T (Array.replicate ops.length false) ⟨nt, sl, h, c⟩ ops.length (fun k _ => hfr k) k).1 hok
 rw [show ops.toArray.size = ops.length by simp]
 refine LC (A := A) (n := ops.length) hE (by simp) (fun st' a' w' listed hk hR'' => ?_) ops.length _ ⟨nt, sl, h, c⟩ a _ (by simp) hD ?_
 .refine ⟨S, ?_, kk⟩
  obtain ⟨⟨μ, x1, x2⟩, x3, x4⟩ := hR''
  exact hk a' w' ⟨⟨μ, x1.less fun id hid => .inl hid, x2⟩, x3, x4⟩
 obtain ⟨⟨μ, x1, x2⟩, x3, x4⟩ := hR'
 refine ⟨⟨μ, x1.less fun id hid => ?_, x2⟩, x3, x4⟩
 rcases hid with hid | ⟨k, _, _, rfl⟩
 .simp only [Fr]; omega
 simp [Fr]
end
end Go.E
/- Aj objects handed to a function that turns them: its contract (C0 of the objects alone), and its use among other objects (XM, XK). No condition. -/
namespace Go.E
open Go Go.RowKit
def Q7 (ρ : Nat -> Nat) : LV -> LV
 | .lsl id sz off len => .lsl (ρ id) sz off len
 | .lpb id off => .lpb (ρ id) off
 | .lpe id i off => .lpe (ρ id) i off
 | .lmap id => .lmap (ρ id)
 | x => x
def miV : LV -> Option Nat
 | .lsl id _ _ _ => some id
 | .lpb id _ => some id
 | .lpe id _ _ => some id
 | .lmap id => some id
 | _ => none
def mfV : LV -> Bool
 | .p _ => true
 | .lsl _ _ _ _ => true
 | .lpb _ _ => true
 | .lpe _ _ _ => true
 | .lmap _ => true
 | .und => true
 | .any => true
 | _ => false
def P3 (ρ : Nat -> Nat) : BA -> BA
 | .box cs => .box (cs.map (Q7 ρ))
 | o => o
def PG (gl : List (Nat × Nat)) (m : Nat) (l : LV) : Bool := mfV l && (match miV l with
 | none => true
 | some i => Nat.ble m i || (AJ i gl).isSome)
def VX (gl : List (Nat × Nat)) (m : Nat) : BA -> Bool
 | .box cs => cs.all (PG gl m)
 | _ => true
def mrA (ρ : Nat -> Nat) : LV -> LV
 | .agg l => .agg (l.map (Q7 ρ))
 | l => Q7 ρ l
def moA (gl : List (Nat × Nat)) (m : Nat) : LV -> Bool
 | .agg l => l.all (PG gl m)
 | l => PG gl m l
def mrL (ρ : Nat -> Nat) : LV -> LV
 | .tup l => .tup (l.map (mrA ρ))
 | l => mrA ρ l
def moL (gl : List (Nat × Nat)) (m : Nat) : LV -> Bool
 | .tup l => l.all (moA gl m)
 | l => moA gl m l
def Hf (ρ : Nat -> Nat) : AS -> AS
 | [] => []
 | (i, o) :: h => (ρ i, P3 ρ o) :: Hf ρ h
def Ci (gl : List (Nat × Nat)) (nw : Nat -> Nat) (i : Nat) : Nat := match AJ i gl with
 | some j => j
 | none => nw i
def Mj (gl : List (Nat × Nat)) (m c i : Nat) : Nat := Ci gl (fun i => c + (i - m)) i
def Ny (ρ : Nat -> Nat) (h : AS) : AS -> Prop
 | [] => True
 | (i, o) :: r => AJ (ρ i) h = some (P3 ρ o) /\ Ny ρ h r
def VY (gl : List (Nat × Nat)) (m m1 : Nat) (H H1 : AS) : Bool :=
 Nat.ble m m1 && H.all (fun p => Nat.ble (p.1 + 1) m && (AJ p.1 gl).isSome && VX gl m p.2) && gl.all (fun p => (AJ p.1 H).isSome && gl.all fun q => p.1 == q.1 || p.2 != q.2) && H1.all (fun p => (Nat.ble m p.1 || (AJ p.1 gl).isSome) && VX gl m p.2)
theorem Hg {α : Type} {i : Nat} {o : α} : ∀ {l : List (Nat × α)}, AJ i l = some o -> (i, o) ∈ l
 | [], h => by simp [AJ] at h
 | (k, v) :: l, h => by
  unfold AJ at h
  split at h
  .rename_i e; cases h; subst e; simp
  exact List.mem_cons_of_mem _ (Hg h)
theorem Q8 {ρ : Nat -> Nat} {h : AS} {i : Nat} {o : BA} : ∀ {H : AS}, Ny ρ h H -> AJ i H = some o -> AJ (ρ i) h = some (P3 ρ o)
 | [], _, hl => by simp [AJ] at hl
 | (k, v) :: H, hk, hl => by
  unfold AJ at hl
  split at hl
  .rename_i e; cases hl; subst e; exact hk.1
  exact Q8 hk.2 hl
theorem VZ {ρ : Nat -> Nat} {id : Nat} {o : BA} : ∀ {H : AS}, AJ id (Hf ρ H) = some o -> ∃ i o1, AJ i H = some o1 /\ ρ i = id /\ o = P3 ρ o1
 | [], h => by simp [Hf, AJ] at h
 | (k, v) :: H, h => by
  unfold Hf AJ at h
  split at h
  .rename_i e; cases h; exact ⟨k, v, by simp [AJ], e.symm, rfl⟩
  rename_i e
  obtain ⟨i, o1, h1, h2, h3⟩ := VZ h
  refine ⟨i, o1, ?_, h2, h3⟩
  unfold AJ
  rw [if_neg (fun e2 => e (by rw [<- h2, e2]))]
  exact h1
theorem Va {α : Type} {id : Nat} {o : α} : ∀ {a b : List (Nat × α)}, AJ id (a ++ b) = some o -> AJ id a = some o \/ AJ id b = some o
 | [], b, h => .inr h
 | (k, v) :: a, b, h => by
  rw [List.cons_append] at h
  have e1 : ∀ l : List (Nat × α), AJ id ((k, v) :: l) = if id = k then some v else AJ id l := fun _ => rfl
  rw [e1] at h
  by_cases e : id = k
  .rw [if_pos e] at h; rw [e1, if_pos e]; exact .inl h
  rw [if_neg e] at h; rw [e1, if_neg e]; exact Va h
section
variable {O : Nat -> Prop} {μ μ' : Nat -> Option BS} {w : World} {ρ : Nat -> Nat}
theorem XN {v : Value} {l : LV} (hf : mfV l = true) (hμ : ∀ i loc, miV l = some i -> μ (ρ i) = some loc -> μ' i = some loc) (h : Ah O μ w v (Q7 ρ l)) : Ah O μ' w v l := by
 cases l with
 | p d => cases h with | p _ _ h => exact .p _ _ h
 | lsl id sz off len =>
  cases h with
  | lsln _ loc hm hn => exact .lsln id loc (hμ _ _ rfl hm) hn
  | lsl _ _ _ cap a loc hm hn hcap hl ha hb hs => exact .lsl id off len cap a loc (hμ _ _ rfl hm) hn hcap hl ha hb hs
 | lpb id off => cases h with | lpb _ _ loc hm hn => exact .lpb id off loc (hμ _ _ rfl hm) hn
 | lpe id i off => cases h with | lpe _ _ _ loc hm hn => exact .lpe id i off loc (hμ _ _ rfl hm) hn
 | lmap id => cases h with | lmap _ loc hm hn => exact .lmap id loc (hμ _ _ rfl hm) hn
 | und => cases h; exact .und
 | any => exact .any v
 | agg l => cases hf
 | tup l => cases hf
 | fn f l => cases hf
theorem Vb {v : Value} {l : LV} (hf : mfV l = true) (hμ : ∀ i loc, miV l = some i -> μ' i = some loc -> μ (ρ i) = some loc) (h : Ah O μ' w v l) : Ah O μ w v (Q7 ρ l) := by
 cases l with
 | p d => cases h with | p _ _ h => exact .p _ _ h
 | lsl id sz off len =>
  cases h with
  | lsln _ loc hm hn => exact .lsln _ loc (hμ _ _ rfl hm) hn
  | lsl _ _ _ cap a loc hm hn hcap hl ha hb hs => exact .lsl _ off len cap a loc (hμ _ _ rfl hm) hn hcap hl ha hb hs
 | lpb id off => cases h with | lpb _ _ loc hm hn => exact .lpb _ off loc (hμ _ _ rfl hm) hn
 | lpe id i off => cases h with | lpe _ _ _ loc hm hn => exact .lpe _ i off loc (hμ _ _ rfl hm) hn
 | lmap id => cases h with | lmap _ loc hm hn => exact .lmap _ loc (hμ _ _ rfl hm) hn
 | und => cases h; exact .und
 | any => exact .any v
 | agg l => cases hf
 | tup l => cases hf
 | fn f l => cases hf
theorem ABI {gl : List (Nat × Nat)} {m : Nat} {loc : BS} {o : BA} (hf : VX gl m o = true) (hμ : ∀ i lc, (m <= i \/ ∃ j, AJ i gl = some j) -> μ (ρ i) = some lc -> μ' i = some lc) (h : Cw O μ w loc (P3 ρ o)) : Cw O μ' w loc o := by
 cases o with
 | row e sz el => exact h
 | map mp => exact h
 | mapd mp => exact h
 | iter cur left => exact h
 | box cs =>
  obtain ⟨hn, c, t, h1, h2, h3⟩ := h
  refine ⟨hn, c, t, h1, by simpa using h2, fun i v l hv hl => ?_⟩
  have hok := List.all_eq_true.1 hf l (List.mem_of_getElem? hl)
  simp only [PG, Bool.and_eq_true] at hok
  refine XN hok.1 (fun j lc hj hm => hμ j lc ?_ hm) (h3 i v _ hv (by rw [List.getElem?_map, hl]; rfl))
  have h4 := hok.2
  rw [hj] at h4
  simp only [Bool.or_eq_true, Nat.ble_eq] at h4
  exact h4.imp (fun x => x) fun h5 => Option.isSome_iff_exists.1 h5
theorem AAN {gl : List (Nat × Nat)} {m : Nat} {loc : BS} {o : BA} (hf : VX gl m o = true) (hμ : ∀ i lc, (m <= i \/ ∃ j, AJ i gl = some j) -> μ' i = some lc -> μ (ρ i) = some lc) (h : Cw O μ' w loc o) : Cw O μ w loc (P3 ρ o) := by
 cases o with
 | row e sz el => exact h
 | map mp => exact h
 | mapd mp => exact h
 | iter cur left => exact h
 | box cs =>
  obtain ⟨hn, c, t, h1, h2, h3⟩ := h
  refine ⟨hn, c, t, h1, by simpa using h2, fun i v l hv hl => ?_⟩
  rw [List.getElem?_map] at hl
  cases hc : cs[i]? with
  | none => rw [hc] at hl; cases hl
  | some x =>
   rw [hc] at hl
   cases hl
   have hok := List.all_eq_true.1 hf x (List.mem_of_getElem? hc)
   simp only [PG, Bool.and_eq_true] at hok
   refine Vb hok.1 (fun j lc hj hm => hμ j lc ?_ hm) (h3 i v x hv hc)
   have h4 := hok.2
   rw [hj] at h4
   simp only [Bool.or_eq_true, Nat.ble_eq] at h4
   exact h4.imp (fun x => x) fun h5 => Option.isSome_iff_exists.1 h5
end
section
variable {P : Program}
theorem ABJ {k : Nat} {H H1 : AS} {m m1 : Nat} {ls : List LV} {L : LV} (hM : ∀ A : BE, (∀ id, A.μ0 id ≠ none -> id < m) -> C0 P A H m k ls (fun l h c => l = L /\ h = H1 /\ c = m1))
  (gl : List (Nat × Nat)) (nw : Nat -> Nat) {A : BE} {h : AS} {F : Nat -> Prop} (hF : ∀ i, m <= i -> F (nw i)) (hinj : ∀ i i', m <= i -> m <= i' -> nw i = nw i' -> i = i') (hB : VY gl m m1 H H1 = true) (hobj : Ny (Ci gl nw) h H) (hls : ls.all (PG gl m) = true) (hL : moL gl m L = true)
  {μ : Nat -> Option BS} {w : World} {vs : Array Value} (hh : HRel A μ h F w) (hsz : vs.size = ls.length) (hr : ∀ (i : Nat) (v : Value) (x : LV), vs[i]? = some v -> (ls.map (Q7 (Ci gl nw)))[i]? = some x -> Ah (Aj A μ h) μ w v x) :
  Calls P k vs w fun en w' => ∃ u μ', en = .returned u /\ HRel A μ' (Hf (Ci gl nw) H1 ++ B9 (gl.map (·.2)) h) (fun q => F q /\ ∀ i, m <= i -> i < m1 -> q ≠ nw i) w' /\ Ah (Aj A μ' (Hf (Ci gl nw) H1 ++ B9 (gl.map (·.2)) h)) μ' w' u (mrL (Ci gl nw) L) /\ ∀ v x, Ah (Aj A μ h) μ w v x -> Ah (Aj A μ' (Hf (Ci gl nw) H1 ++ B9 (gl.map (·.2)) h)) μ' w' v x := by
 simp only [VY, Bool.and_eq_true, List.all_eq_true, Nat.ble_eq, Bool.or_eq_true, beq_iff_eq, bne_iff_ne] at hB
 obtain ⟨⟨⟨hm, hH⟩, hgl⟩, hH1⟩ := hB
 have key : ∀ i o, AJ i H = some o -> i < m /\ (∃ j, AJ i gl = some j) /\ VX gl m o = true := fun i o hl => by
  obtain ⟨⟨h1, h2⟩, h3⟩ := hH _ (Hg hl)
  exact ⟨h1, Option.isSome_iff_exists.1 h2, h3⟩
 have gkey : ∀ i j, AJ i gl = some j -> ∃ o, AJ i H = some o := fun i j hl => Option.isSome_iff_exists.1 (hgl _ (Hg hl)).1
 have ginj : ∀ i i' j, AJ i gl = some j -> AJ i' gl = some j -> i = i' := fun i i' j h1 h2 => by
  have := (hgl _ (Hg h1)).2 _ (Hg h2)
  rcases this with h | h
  .exact h
  exact absurd rfl h
 have rg : ∀ i j, AJ i gl = some j -> Ci gl nw i = j := fun i j hl => by unfold Ci; rw [hl]
 have rn : ∀ i, m <= i -> Ci gl nw i = nw i := fun i hi => by
  unfold Ci
  cases hl : AJ i gl with
  | none => rfl
  | some j =>
   obtain ⟨o, ho⟩ := gkey i j hl
   have := (key i o ho).1
   omega
 have hno : ∀ i, m <= i -> μ (nw i) = none := fun i hi => hh.fresh _ (hF i hi)
 let μ' : Nat -> Option BS := fun i => match AJ i gl with | some j => μ j | none => none
 have μg : ∀ i j, AJ i gl = some j -> μ' i = μ j := fun i j hl => by simp only [μ', hl]
 have μlt : ∀ i loc, μ' i = some loc -> ∃ j, AJ i gl = some j /\ μ j = some loc := by
  intro i loc hi
  cases hl : AJ i gl with
  | none => simp only [μ', hl] at hi; cases hi
  | some j => exact ⟨j, rfl, by rw [<- μg i j hl]; exact hi⟩
 have hobj' : ∀ i o, AJ i H = some o -> ∃ j, AJ i gl = some j /\ AJ j h = some (P3 (Ci gl nw) o) := fun i o hl => by
  obtain ⟨_, ⟨j, hj⟩, _⟩ := key i o hl
  have := Q8 hobj hl
  rw [rg i j hj] at this
  exact ⟨j, hj, this⟩
 have mine : ∀ b, Bq μ' H b -> Bq μ h b /\ ∃ i j o loc, AJ i H = some o /\ AJ i gl = some j /\ AJ j h = some (P3 (Ci gl nw) o) /\ μ j = some loc /\ loc.nil = false /\ loc.b = b := by
  rintro b ⟨i, o, loc, h1, h2, h3, h4⟩
  obtain ⟨j, hj, hj2⟩ := hobj' i o h1
  rw [μg i j hj] at h2
  exact ⟨⟨j, _, loc, hj2, h2, h3, h4⟩, i, j, o, loc, h1, hj, hj2, h2, h3, h4⟩
 have ownlt : ∀ b, Aj A μ h b -> b < w.heap.size := by
  rintro b (hb | ⟨id, o, loc, h1, h2, h3, rfl⟩)
  .exact Nat.lt_of_lt_of_le (A.hO b hb).1 hh.size
  exact (hh.base id o loc h1 h2 h3).1
 let A' : BE := ⟨w, fun b => Aj A μ h b /\ ¬ Bq μ' H b, Bq μ' H, μ', fun b hb => ⟨ownlt b hb.1, hb.2⟩⟩
 have own1 : ∀ b, Aj A' μ' H b -> Aj A μ h b := by
  rintro b (hb | hb)
  .exact hb.1
  exact .inr (mine b hb).1
 have own2 : ∀ b, Aj A μ h b -> Aj A' μ' H b := fun b hb => by
  by_cases hc : Bq μ' H b
  .exact .inr hc
  exact .inl ⟨hb, hc⟩
 have hh' : HRel A' μ' H (Fr m) w := by
  refine ⟨?_, ?_, ?_, ?_, Nat.le_refl _, fun _ _ _ => rfl, rfl, rfl, rfl, fun _ _ hm' => hm'⟩
  .intro i o hl
   obtain ⟨j, hj, hj2⟩ := hobj' i o hl
   obtain ⟨loc, h1, h2⟩ := hh.obj j _ hj2
   refine ⟨loc, by rw [μg i j hj]; exact h1, ?_⟩
   have h3 : Cw (Aj A' μ' H) μ w loc (P3 (Ci gl nw) o) := h2.mono (BJ.refl _ _) (fun b _ hb => own1 b hb) (fun _ _ h => h) (fun _ => rfl)
   refine ABI (key i o hl).2.2 (fun i' lc hi' hm' => ?_) h3
   rcases hi' with hi' | ⟨j', hj'⟩
   .rw [rn i' hi', hno i' hi'] at hm'; cases hm'
   rw [rg i' j' hj'] at hm'
   rw [μg i' j' hj']; exact hm'
  .intro i i' o o' loc loc' h1 h2 m1' m2' n1 n2 he
   obtain ⟨j, hj, hj2⟩ := hobj' i o h1
   obtain ⟨j', hj', hj2'⟩ := hobj' i' o' h2
   rw [μg i j hj] at m1'
   rw [μg i' j' hj'] at m2'
   have := hh.inj _ _ _ _ _ _ hj2 hj2' m1' m2' n1 n2 he
   subst this
   exact ginj _ _ _ hj hj'
  .intro i hi
   cases hm' : μ' i with
   | none => rfl
   | some loc =>
    obtain ⟨j, hj, _⟩ := μlt i loc hm'
    obtain ⟨o, ho⟩ := gkey i j hj
    have := (key i o ho).1
    simp only [Fr] at hi; omega
  intro i o loc h1 h2 h3
  have hmine : Bq μ' H loc.b := ⟨i, o, loc, h1, h2, h3, rfl⟩
  exact ⟨ownlt _ (.inr (mine _ hmine).1), fun hb => hb.2 hmine, .inr hmine⟩
 have hargs : ∀ (i : Nat) (v : Value) (l : LV), vs[i]? = some v -> ls[i]? = some l -> Ah (Aj A' μ' H) μ' w v l := by
  intro i v l hv hl
  have hok := List.all_eq_true.1 hls l (List.mem_of_getElem? hl)
  simp only [PG, Bool.and_eq_true] at hok
  have h1 := (hr i v _ hv (by rw [List.getElem?_map, hl]; rfl)).mono (O' := Aj A' μ' H) (BJ.refl _ _) (fun b _ hb => own1 b hb) (fun _ _ h => h)
  refine XN hok.1 (fun i' lc hi' hm' => ?_) h1
  have h4 := hok.2
  rw [hi'] at h4
  simp only [Bool.or_eq_true, Nat.ble_eq] at h4
  rcases h4 with h4 | h4
  .rw [rn i' h4, hno i' h4] at hm'; cases hm'
  obtain ⟨j', hj'⟩ := Option.isSome_iff_exists.1 h4
  rw [rg i' j' hj'] at hm'
  rw [μg i' j' hj']; exact hm'
 have hμ0 : ∀ id, A'.μ0 id ≠ none -> id < m := by
  intro id hid
  cases hm' : μ' id with
  | none => exact absurd hm' hid
  | some loc =>
   obtain ⟨j, hj, _⟩ := μlt id loc hm'
   obtain ⟨o, ho⟩ := gkey id j hj
   exact (key id o ho).1
 refine ((hM A' hμ0).2 μ' w vs hh' hsz hargs).mono ?_
 rintro e w' ⟨u, l, h1, c1, μ'', he, ⟨rfl, rfl, rfl⟩, hh2, hu, -⟩
 let μ3 : Nat -> Option BS := fun id => open Classical in if hx : ∃ i, m <= i /\ nw i = id then μ'' (Classical.choose hx) else μ id
 have μ3n : ∀ i, m <= i -> μ3 (nw i) = μ'' i := fun i hi => by
  have hx : ∃ i', m <= i' /\ nw i' = nw i := ⟨i, hi, rfl⟩
  simp only [μ3, dif_pos hx]
  have hc := Classical.choose_spec hx
  rw [hinj _ _ hc.1 hi hc.2]
 have ext : ∀ i loc, μ' i = some loc -> μ'' i = some loc := fun i loc hi => hh2.ext i loc hi
 have μ3o : ∀ id loc, μ id = some loc -> μ3 id = some loc := fun id loc hm' => by
  have hx : ¬ ∃ i, m <= i /\ nw i = id := fun ⟨i, h1, h2⟩ => by rw [<- h2, hno i h1] at hm'; cases hm'
  simp only [μ3, dif_neg hx, hm']
 have name : ∀ i lc, (m <= i \/ ∃ j, AJ i gl = some j) -> μ'' i = some lc -> μ3 (Ci gl nw i) = some lc := by
  intro i lc hi hm'
  rcases hi with hi | ⟨j, hj⟩
  .rw [rn i hi, μ3n i hi]
   exact hm'
  obtain ⟨o, ho⟩ := gkey i j hj
  obtain ⟨j', hj', hj2⟩ := hobj' i o ho
  rw [hj] at hj'
  cases hj'
  obtain ⟨loc, g1, _⟩ := hh.obj j _ hj2
  have := ext i loc (by rw [μg i j hj]; exact g1)
  rw [hm'] at this
  cases this
  rw [rg i j hj]
  exact μ3o j _ g1
 have new : ∀ id o, AJ id (Hf (Ci gl nw) h1) = some o -> ∃ i o1, AJ i h1 = some o1 /\ Ci gl nw i = id /\ o = P3 (Ci gl nw) o1 /\ (m <= i \/ ∃ j, AJ i gl = some j) /\ VX gl m o1 = true := by
  intro id o hl
  obtain ⟨i, o1, g1, g2, g3⟩ := VZ hl
  obtain ⟨g4, g5⟩ := hH1 _ (Hg g1)
  exact ⟨i, o1, g1, g2, g3, g4.imp (fun x => x) fun h5 => Option.isSome_iff_exists.1 h5, g5⟩
 have cases' : ∀ id o, AJ id (Hf (Ci gl nw) h1 ++ B9 (gl.map (·.2)) h) = some o -> (∃ i o1, AJ i h1 = some o1 /\ Ci gl nw i = id /\ o = P3 (Ci gl nw) o1 /\ (m <= i \/ ∃ j, AJ i gl = some j) /\ VX gl m o1 = true) \/ (id ∉ gl.map (·.2) /\ AJ id h = some o) := by
  intro id o hl
  rcases Va hl with hl | hl
  .exact .inl (new id o hl)
  exact .inr (HG hl)
 have other : ∀ id o loc, id ∉ gl.map (·.2) -> AJ id h = some o -> μ id = some loc -> loc.nil = false -> ¬ Bq μ' H loc.b := by
  intro id o loc hid hl hm' hn hmine
  obtain ⟨_, i, j, o', loc', g1, g2, g3, g4, g5, g6⟩ := mine _ hmine
  have := hh.inj _ _ _ _ _ _ g3 hl g4 hm' g5 hn g6
  subst this
  exact hid (List.mem_map.2 ⟨(i, j), Hg g2, rfl⟩)
 have hkept : BJ (Aj A μ h) w w' := ⟨hh2.size, fun b hb hO => hh2.block b hb fun hm' => hO (.inr (mine b hm').1)⟩
 have nmine : ∀ b, Bq μ3 (Hf (Ci gl nw) h1 ++ B9 (gl.map (·.2)) h) b -> Bq μ'' h1 b \/ (Aj A μ h b /\ ¬ Bq μ' H b) := by
  rintro b ⟨id, o, loc, g1, g2, g3, g4⟩
  rcases cases' id o g1 with ⟨i, o1, k1, k2, k3, k4, k5⟩ | ⟨k1, k2⟩
  .left
   obtain ⟨lc, q1, _⟩ := hh2.obj i o1 k1
   have := name i lc k4 q1
   rw [k2, g2] at this
   cases this
   exact ⟨i, o1, loc, k1, q1, g3, g4⟩
  right
  obtain ⟨lc, q1, _⟩ := hh.obj id o k2
  have := μ3o id lc q1
  rw [g2] at this
  cases this
  rw [<- g4]
  exact ⟨.inr ⟨id, o, loc, k2, q1, g3, rfl⟩, other id o loc k1 k2 q1 g3⟩
 have own3 : ∀ b, Aj A μ3 (Hf (Ci gl nw) h1 ++ B9 (gl.map (·.2)) h) b -> Aj A' μ'' h1 b := by
  rintro b (hb | hb)
  .refine .inl ⟨.inl hb, fun hm' => ?_⟩
   obtain ⟨_, i, j, o', loc', g1, g2, g3, g4, g5, rfl⟩ := mine _ hm'
   exact (hh.base j _ loc' g3 g4 g5).2.1 hb
  rcases nmine b hb with hb | hb
  .exact .inr hb
  exact .inl hb
 have own4 : ∀ b, b < w.heap.size -> Aj A μ3 (Hf (Ci gl nw) h1 ++ B9 (gl.map (·.2)) h) b -> Aj A μ h b := by
  rintro b hlt' (hb | hb)
  .exact .inl hb
  rcases nmine b hb with ⟨i, o1, loc, k1, k2, k3, rfl⟩ | hb
  .rcases (hh2.base i o1 loc k1 k2 k3).2.2 with hx | hx
   .exact absurd hx (by show ¬ w.heap.size <= _; omega)
   exact .inr (mine _ hx).1
  exact hb.1
 have hu2 : Ah (Aj A μ3 (Hf (Ci gl nw) h1 ++ B9 (gl.map (·.2)) h)) μ'' w' u l := hu.mono (BJ.refl _ _) (fun b _ hb => own3 b hb) (fun _ _ h => h)
 have one : ∀ v x, PG gl m x = true -> Ah (Aj A μ3 (Hf (Ci gl nw) h1 ++ B9 (gl.map (·.2)) h)) μ'' w' v x -> Ah (Aj A μ3 (Hf (Ci gl nw) h1 ++ B9 (gl.map (·.2)) h)) μ3 w' v (Q7 (Ci gl nw) x) := by
  intro v x hx hv
  simp only [PG, Bool.and_eq_true] at hx
  refine Vb hx.1 (fun i' lc' hi' hm' => name i' lc' ?_ hm') hv
  have h4 := hx.2
  rw [hi'] at h4
  simp only [Bool.or_eq_true, Nat.ble_eq] at h4
  exact h4.imp (fun x => x) fun h5 => Option.isSome_iff_exists.1 h5
 refine ⟨u, μ3, he, ⟨?_, ?_, ?_, ?_, Nat.le_trans hh.size hh2.size, ?_, hh2.os.trans hh.os, hh2.tape.trans hh.tape, hh2.output.trans hh.output, fun id loc hm' => μ3o id loc (hh.ext id loc hm')⟩, ?_, fun v x hv => hv.mono hkept own4 μ3o⟩
 .intro id o hl
  rcases cases' id o hl with ⟨i, o1, k1, k2, rfl, k4, k5⟩ | ⟨k1, k2⟩
  .obtain ⟨lc, q1, q2⟩ := hh2.obj i o1 k1
   refine ⟨lc, by rw [<- k2]; exact name i lc k4 q1, ?_⟩
   have q3 : Cw (Aj A μ3 (Hf (Ci gl nw) h1 ++ B9 (gl.map (·.2)) h)) μ'' w' lc o1 := q2.mono (BJ.refl _ _) (fun b _ hb => own3 b hb) (fun _ _ h => h) (fun _ => rfl)
   exact AAN k5 (fun i' lc' hi' hm' => name i' lc' hi' hm') q3
  obtain ⟨lc, q1, q2⟩ := hh.obj id o k2
  refine ⟨lc, μ3o id lc q1, q2.mono hkept own4 μ3o fun hn => ?_⟩
  exact hh2.block _ (hh.base id o lc k2 q1 hn).1 (other id o lc k1 k2 q1 hn)
 .intro id id' o o' loc loc' g1 g2 m1' m2' n1 n2 hb
  rcases cases' id o g1 with ⟨i, o1, k1, k2, k3, k4, k5⟩ | ⟨k1, k2⟩
  .obtain ⟨lc, q1, _⟩ := hh2.obj i o1 k1
   have e1 := name i lc k4 q1
   rw [k2, m1'] at e1
   cases e1
   rcases cases' id' o' g2 with ⟨i', o1', k1', k2', k3', k4', k5'⟩ | ⟨k1', k2'⟩
   .obtain ⟨lc', q1', _⟩ := hh2.obj i' o1' k1'
    have e1' := name i' lc' k4' q1'
    rw [k2', m2'] at e1'
    cases e1'
    have := hh2.inj _ _ _ _ _ _ k1 k1' q1 q1' n1 n2 hb
    rw [<- k2, <- k2', this]
   exfalso
   obtain ⟨lc', q1', _⟩ := hh.obj id' o' k2'
   have e1' := μ3o id' lc' q1'
   rw [m2'] at e1'
   cases e1'
   have hno := other id' o' loc' k1' k2' q1' n2
   have hsz' := (hh.base id' o' loc' k2' q1' n2).1
   rcases (hh2.base i o1 loc k1 q1 n1).2.2 with hx | hx
   .have : w.heap.size <= loc.b := hx
    omega
   rw [hb] at hx; exact hno hx
  obtain ⟨lc, q1, _⟩ := hh.obj id o k2
  have e1 := μ3o id lc q1
  rw [m1'] at e1
  cases e1
  rcases cases' id' o' g2 with ⟨i', o1', k1', k2', k3', k4', k5'⟩ | ⟨k1', k2'⟩
  .exfalso
   obtain ⟨lc', q1', _⟩ := hh2.obj i' o1' k1'
   have e1' := name i' lc' k4' q1'
   rw [k2', m2'] at e1'
   cases e1'
   have hno := other id o loc k1 k2 q1 n1
   have hsz' := (hh.base id o loc k2 q1 n1).1
   rcases (hh2.base i' o1' loc' k1' q1' n2).2.2 with hx | hx
   .have : w.heap.size <= loc'.b := hx
    omega
   rw [<- hb] at hx; exact hno hx
  obtain ⟨lc', q1', _⟩ := hh.obj id' o' k2'
  have e1' := μ3o id' lc' q1'
  rw [m2'] at e1'
  cases e1'
  exact hh.inj _ _ _ _ _ _ k2 k2' q1 q1' n1 n2 hb
 .rintro id ⟨hid, hid2⟩
  by_cases hx : ∃ i, m <= i /\ nw i = id
  .obtain ⟨i, h1', h2'⟩ := hx
   rw [<- h2', μ3n i h1']
   refine hh2.fresh _ ?_
   simp only [Fr]
   exact Nat.le_of_not_lt fun hlt => hid2 i h1' hlt h2'.symm
  simp only [μ3, dif_neg hx]
  exact hh.fresh id hid
 .intro id o loc g1 g2 g3
  rcases cases' id o g1 with ⟨i, o1, k1, k2, k3, k4, k5⟩ | ⟨k1, k2⟩
  .obtain ⟨lc, q1, _⟩ := hh2.obj i o1 k1
   have e1 := name i lc k4 q1
   rw [k2, g2] at e1
   cases e1
   obtain ⟨b1, b2, b3⟩ := hh2.base i o1 loc k1 q1 g3
   refine ⟨b1, fun hO => b2 ⟨.inl hO, fun hm' => ?_⟩, ?_⟩
   .obtain ⟨_, i', j', o', loc', g1', g2', g3', g4', g5', g6'⟩ := mine _ hm'
    rw [<- g6'] at hO
    exact (hh.base j' _ loc' g3' g4' g5').2.1 hO
   rcases b3 with hx | hx
   .exact .inl (Nat.le_trans hh.size hx)
   obtain ⟨_, i', j', o', loc', g1', g2', g3', g4', g5', g6'⟩ := mine _ hx
   rw [<- g6']
   exact (hh.base j' _ loc' g3' g4' g5').2.2
  obtain ⟨lc, q1, _⟩ := hh.obj id o k2
  have e1 := μ3o id lc q1
  rw [g2] at e1
  cases e1
  obtain ⟨b1, b2, b3⟩ := hh.base id o loc k2 q1 g3
  exact ⟨Nat.lt_of_lt_of_le b1 hh2.size, b2, b3⟩
 .intro b hb hnf
  have hnm : ¬ Bq μ' H b := by
   intro hm'
   obtain ⟨_, i', j', o', loc', g1', g2', g3', g4', g5', g6'⟩ := mine _ hm'
   have := (hh.base j' _ loc' g3' g4' g5').2.2
   rw [g6'] at this
   rcases this with hx | hx
   .omega
   exact hnf hx
  rw [hh2.block b (Nat.lt_of_lt_of_le hb hh.size) hnm]
  exact hh.block b hb hnf
 have oneA : ∀ v x, moA gl m x = true -> Ah (Aj A μ3 (Hf (Ci gl nw) h1 ++ B9 (gl.map (·.2)) h)) μ'' w' v x -> Ah (Aj A μ3 (Hf (Ci gl nw) h1 ++ B9 (gl.map (·.2)) h)) μ3 w' v (mrA (Ci gl nw) x) := by
  intro v x hx hv
  cases x with
  | agg xs =>
   cases hv with
   | agg vs' _ hsz' hxs =>
    refine .agg vs' _ (by simpa using hsz') fun i v x hv hx' => ?_
    rw [List.getElem?_map] at hx'
    cases hc : xs[i]? with
    | none => rw [hc] at hx'; cases hx'
    | some y =>
     rw [hc] at hx'
     cases hx'
     exact one v y (List.all_eq_true.1 hx y (List.mem_of_getElem? hc)) (hxs i v y hv hc)
  | p d => exact one v _ hx hv
  | lsl id sz off len => exact one v _ hx hv
  | lpb id off => exact one v _ hx hv
  | lpe id i off => exact one v _ hx hv
  | lmap id => exact one v _ hx hv
  | und => exact one v _ hx hv
  | any => exact one v _ hx hv
  | tup l => exact one v _ hx hv
  | fn f l => exact one v _ hx hv
 cases l with
 | tup xs =>
  cases hu2 with
  | tup vs' _ hsz' hxs =>
   refine .tup vs' _ (by simpa using hsz') fun i v x hv hx => ?_
   rw [List.getElem?_map] at hx
   cases hc : xs[i]? with
   | none => rw [hc] at hx; cases hx
   | some y =>
    rw [hc] at hx
    cases hx
    exact oneA v y (List.all_eq_true.1 hL y (List.mem_of_getElem? hc)) (hxs i v y hv hc)
 | p d => exact oneA u (.p d) hL hu2
 | lsl id sz off len => exact oneA u (.lsl id sz off len) hL hu2
 | lpb id off => exact oneA u (.lpb id off) hL hu2
 | lpe id i off => exact oneA u (.lpe id i off) hL hu2
 | lmap id => exact oneA u (.lmap id) hL hu2
 | und => exact oneA u .und hL hu2
 | any => exact oneA u .any hL hu2
 | agg l => exact oneA u (.agg l) hL hu2
 | fn f l => exact oneA u (.fn f l) hL hu2
theorem ABK {k : Nat} {H H1 : AS} {m m1 : Nat} {ls : List LV} {L : LV} (hM : ∀ A : BE, (∀ id, A.μ0 id ≠ none -> id < m) -> C0 P A H m k ls (fun l h c => l = L /\ h = H1 /\ c = m1))
  (gl : List (Nat × Nat)) {A : BE} {h : AS} {c : Nat} {F : Nat -> Prop} (hF : ∀ q, c <= q -> F q) (hB : VY gl m m1 H H1 = true) (hobj : Ny (Mj gl m c) h H) (hls : ls.all (PG gl m) = true) (hL : moL gl m L = true)
  {μ : Nat -> Option BS} {w : World} {vs : Array Value} (hh : HRel A μ h F w) (hsz : vs.size = ls.length) (hr : ∀ (i : Nat) (v : Value) (x : LV), vs[i]? = some v -> (ls.map (Q7 (Mj gl m c)))[i]? = some x -> Ah (Aj A μ h) μ w v x) :
  Calls P k vs w fun en w' => ∃ u μ', en = .returned u /\ HRel A μ' (Hf (Mj gl m c) H1 ++ B9 (gl.map (·.2)) h) (fun q => F q /\ (q < c \/ c + (m1 - m) <= q)) w' /\ Ah (Aj A μ' (Hf (Mj gl m c) H1 ++ B9 (gl.map (·.2)) h)) μ' w' u (mrL (Mj gl m c) L) /\ ∀ v x, Ah (Aj A μ h) μ w v x -> Ah (Aj A μ' (Hf (Mj gl m c) H1 ++ B9 (gl.map (·.2)) h)) μ' w' v x := by
 refine (ABJ hM gl (fun i => c + (i - m)) (fun i hi => hF _ (by omega)) (fun i i' h1 h2 h3 => by omega) hB hobj hls hL hh hsz hr).mono ?_
 rintro e w' ⟨u, μ', he, g, hu, hk⟩
 refine ⟨u, μ', he, ⟨g.obj, g.inj, fun id hid => g.fresh id ⟨hid.1, fun i h1 h2 h3 => ?_⟩, g.base, g.size, g.block, g.os, g.tape, g.output, g.ext⟩, hu, hk⟩
 have := hid.2; omega
theorem XM {k : Nat} {H H1 : AS} {m m1 : Nat} {ls : List LV} {L : LV} (hM : ∀ A : BE, (∀ id, A.μ0 id ≠ none -> id < m) -> C0 P A H m k ls (fun l h c => l = L /\ h = H1 /\ c = m1))
  (gl : List (Nat × Nat)) {A : BE} {h : AS} {c : Nat} {K : LV -> AS -> Nat -> Prop} (hB : VY gl m m1 H H1 = true) (hobj : Ny (Mj gl m c) h H) (hls : ls.all (PG gl m) = true) (hL : moL gl m L = true)
  (hK : K (mrL (Mj gl m c) L) (Hf (Mj gl m c) H1 ++ B9 (gl.map (·.2)) h) (c + (m1 - m))) : C0 P A h c k (ls.map (Q7 (Mj gl m c))) K := by
 refine ⟨(hM ⟨default, fun _ => False, fun _ => False, fun _ => none, fun _ h => h.elim⟩ (fun _ h => absurd rfl h)).1, fun μ w vs hh hsz hr => ?_⟩
 refine (ABK hM gl (fun q hq => by simp only [Fr]; omega) hB hobj hls hL hh (by simpa using hsz) hr).mono ?_
 rintro e w' ⟨u, μ', he, g, hu, hk⟩
 exact ⟨u, _, _, _, μ', he, hK, ⟨g.obj, g.inj, fun id hid => g.fresh id (by simp only [Fr] at hid ⊢; omega), g.base, g.size, g.block, g.os, g.tape, g.output, g.ext⟩, hu, hk⟩
end
def AAL (P : Program) (k : Nat) (H : AS) (c : Nat) (args : List LV) (L : LV) (H1 : AS) (C : Nat) : Prop :=
 ∀ A : BE, (∀ id, A.μ0 id ≠ none -> id < c) -> C0 P A H c k args fun l h c' => l = L /\ h = H1 /\ c' = C
section
variable {P : Program} {AD : A4}
theorem fnM (hE : BD P AD) {k : Nat} {fn : Func} {cd : Code} (hfun : P.funcs[k]? = some fn) (nt' : Nat) (rs : List ResultVar) (sl' : List (Nat × LV)) (hb : fn.body = some cd) (hn : (fn.name == "runtime.NumGoroutine") = false) (hnt : Nat.beq fn.ntmps nt' = true) (hrs : fn.results.toList = rs)
  {H H1 : AS} {c C : Nat} {ls : List LV} {L : LV} (hlen : Nat.ble ls.length nt' = true) (hsl : Md 0 ls = sl')
  (body : ∀ A : BE, (∀ id, A.μ0 id ≠ none -> id < c) -> B5 P A cd (IP AD.tt rs A L H1 C) ⟨nt', sl', H, c⟩) : AAL P k H c ls L H1 C := by
 intro A hA
 subst hsl
 refine VH hE hfun hb hn nt' (Nat.eq_of_beq_eq_true hnt) rs hrs (Nat.le_of_ble_eq_true hlen) fun A' hA' => ?_
 refine Lq (XG (body A' hA')) fun e s q => ?_
 have fin : (JO AD.tt rs s = some L /\ s.heap = H1 /\ s.ctr = C) -> ∃ l, JO AD.tt rs s = some l /\ l = L /\ s.heap = H1 /\ s.ctr = C := fun ⟨q1, q2, q3⟩ => ⟨_, q1, rfl, q2, q3⟩
 cases e <;> first | exact fin q | exact q.elim
section
variable {A : BE} {f : St -> Prop} {hf : IM f} {nt : Nat} {sl : List (Nat × LV)} {h : AS} {c : Nat}
theorem XK {k : Nat} {H H1 : AS} {m m1 : Nat} {ls : List LV} {L L' : LV} (hM : AAL P k H m ls L H1 m1) (gl : List (Nat × Nat)) {h' : AS} {c' : Nat} {dst : Option Tmp} {fo : Operand} {args : Array Operand} {ts : Array TypeId}
  (hB : VY gl m m1 H H1 = true) (hobj : Ny (Mj gl m c) h H) (hls : ls.all (PG gl m) = true) (hfn : BC nt sl fo = .fn k []) (hl : Ea nt sl args.toList some = some (ls.map (Q7 (Mj gl m c))))
  (hh : Hf (Mj gl m c) H1 ++ B9 (gl.map (·.2)) h = h') (hc : c + (m1 - m) = c') (hL : moL gl m L = true) (hL' : mrL (Mj gl m c) L = L') (kk : f (match dst with | some d => ⟨nt, (d, L') :: sl, h', c'⟩ | none => ⟨nt, sl, h', c'⟩)) :
  BB P A AD ⟨nt, sl, h, c⟩ dst (.call ⟨.value fo, args, ts⟩) ⟨f, hf⟩ := by
 rw [BF (h := h) (c := c)] at hfn
 show PB _ _
 rw [hfn]
 show KQ P A h c k (args.toList.map _ ++ []) _
 rw [I3 hl, List.append_nil]
 refine XM hM gl hB hobj hls hL ?_
 rw [hh, hc, hL']
 show f (St.go ⟨nt, sl, h, c⟩ dst L' h' c')
 rw [Qa]
 cases dst <;> exact kk
end
end
end Go.E
/- Loops over maps, in whatever order (loopA); iterators. No condition. -/
namespace Go.E
open Go Go.RowKit
section
variable {σ α Ans : Type}
open Classical in
end
section
variable {P : Program} {A : BE} {AD : A4} {st : St} {σ α Ans : Type}
end
section
variable {P : Program} {A : BE} {AD : A4} {f : St -> Prop} {hf : IM f} {nt : Nat} {sl : List (Nat × LV)} {h : AS} {c : Nat} {d : Tmp} {κ υ : Type} {ke : κ -> DV} {ve : υ -> DV}
end
end Go.E
/- Drawn regions whose last operation waits for all others: it is run as in the text's order (a call that turns an object, a call that hands back an own row). Condition: the checks, by kernel. -/
namespace Go.E
open Go Go.RowKit
def Jo (o : Oper) : Oper := { o with dst := none, op := .move (.tmp 0), guard := none }
def Nx : List Oper -> List Oper
 | [] => []
 | [o] => [Jo o]
 | o :: o' :: r => o :: Nx (o' :: r)
theorem Q6 (o : Oper) : ∀ l : List Oper, Nx (l ++ [o]) = l ++ [Jo o]
 | [] => rfl
 | [a] => rfl
 | a :: b :: l => by
  have := Q6 o (b :: l)
  simp only [List.cons_append] at this ⊢
  rw [Nx, this]
def SW (md : Region.Mode) (ops : Array Oper) : List Nat -> List Nat -> Bool
 | _, [] => true
 | done, i :: r => (match ops[i]? with
  | some o => o.after.all fun x => !Region.binds md x || done.contains x.on
  | none => false) && SW md ops (i :: done) r
def P0 (md : Region.Mode) (ops : Array Oper) : List Nat -> List Nat -> Bool
 | _, [] => true
 | later, j :: r => (later.any fun k => match ops[k]? with
  | some o => o.after.any fun x => Region.binds md x && x.on == j
  | none => false) && P0 md ops (j :: later) r
def XL (ops : Array Oper) (L : Nat) : Bool := ops.all fun o => match o.guard with
 | some (j, _) => !(j == L)
 | none => true
def ZK (md : Region.Mode) (ops : Array Oper) (listed : Array Bool) : Prop := ∀ i, listed.getD i false = true -> ∀ o, ops[i]? = some o -> ∀ x ∈ o.after, Region.binds md x = true -> listed.getD x.on false = true
section
variable {P : Program} {A : BE} {AD : A4} {md : Region.Mode} {ops : Array Oper} {base : Nat} {K : St -> Prop}
theorem SX {listed : Array Bool} (hr : Region.ready md ops listed = []) : ∀ (order done : List Nat), (∀ i ∈ done, listed.getD i false = true) -> (∀ i ∈ order, i < listed.size) -> SW md ops done order = true -> ∀ i ∈ order, listed.getD i false = true
 | [], _, _, _, _, i, hi => by simp at hi
 | k :: r, done, hd, hs, ht, i, hi => by
  simp only [SW, Bool.and_eq_true] at ht
  have hk : listed.getD k false = true := by
   cases hl : listed.getD k false with
   | true => rfl
   | false =>
    exfalso
    cases ho : ops[k]? with
    | none => rw [ho] at ht; simp at ht
    | some o =>
     rw [ho] at ht
     have hks := hs k (by simp)
     have : k ∈ Region.ready md ops listed := mem_ready.2 ⟨by
      simp only [Array.getD_eq_getD_getElem?, Array.getElem?_eq_getElem hks, Option.getD_some] at hl ⊢; exact hl, o, ho, fun x hx hb => by
      have h1 := Array.all_eq_true'.1 ht.1 x hx
      simp only [hb, Bool.not_true, Bool.false_or, List.contains_iff_mem] at h1
      exact hd _ h1⟩
     rw [hr] at this
     cases this
  rcases List.mem_cons.1 hi with rfl | hi
  .exact hk
  exact SX hr r (k :: done) (fun j hj => by
  rcases List.mem_cons.1 hj with rfl | hj
  .exact hk
  exact hd j hj) (fun j hj => hs j (by simp [hj])) ht.2 i hi
theorem P1 {listed : Array Bool} (hc : ZK md ops listed) : ∀ (others later : List Nat), (∀ k ∈ later, ∀ o, ops[k]? = some o -> ∀ x ∈ o.after, Region.binds md x = true -> listed.getD x.on false = true) -> P0 md ops later others = true -> ∀ j ∈ others, listed.getD j false = true
 | [], _, _, _, j, hj => by simp at hj
 | k :: r, later, hl, h, j, hj => by
  simp only [P0, Bool.and_eq_true, List.any_eq_true] at h
  obtain ⟨⟨m, hm, h1⟩, h2⟩ := h
  have hk : listed.getD k false = true := by
   cases ho : ops[m]? with
   | none => rw [ho] at h1; cases h1
   | some o =>
    rw [ho] at h1
    obtain ⟨x, hx, hx2⟩ := Array.any_eq_true'.1 h1
    simp only [Bool.and_eq_true, beq_iff_eq] at hx2
    rw [<- hx2.2]
    exact hl m hm o ho x hx hx2.1
  rcases List.mem_cons.1 hj with rfl | hj
  .exact hk
  exact P1 hc r (k :: later) (fun i hi => by
   rcases List.mem_cons.1 hi with rfl | hi
   .exact hc _ hk
   exact hl i hi) h2 j hj
theorem ZL {Q' : Exit -> Act -> World -> Prop} {listed : Array Bool} (hr : Region.ready md ops listed = []) {a : Act} {w : World} (h : Q' .normal a w) : ∀ fuel, wpAny P md ops Q' fuel listed a w
 | 0 => ⟨hr, h⟩
 | fuel + 1 => ⟨fun _ => h, fun i hi => by rw [hr] at hi; cases hi⟩
theorem YJ (hE : BD P AD) {ops' : Array Oper} {n L : Nat} {oL : Oper} (hn : n = ops.size) (hn' : n = ops'.size) (hL : ops[L]? = some oL) (hL' : ops'[L]? = some (Jo oL)) (hg : oL.guard = none) (heq : ∀ i, i ≠ L -> ops'[i]? = ops[i]?) (hgs : XL ops L = true)
  {others : List Nat} (hall : ∀ i, i < n -> i = L \/ i ∈ others) (hin : ∀ i ∈ others, i < n) (hLn : L < n) (ht : SW md ops [] (others ++ [L]) = true) (hch : P0 md ops [L] others.reverse = true)
  {Q' : Exit -> Act -> World -> Prop} {F : St -> Prop} (hQ : ∀ st a w, F st -> R A st a w -> Q' .normal a w) (hK : ∀ st, K st -> ∃ st', A8 A { st with ctr := base + n } st' /\ BB P A AD st' oL.dst oL.op ⟨F, ⟨⟩⟩) :
  ∀ (fuel : Nat) (listed : Array Bool) (st : St) (a : Act) (w : World), listed.size = n -> ZK md ops listed -> listed.getD L true = false -> Iy P AD md ops' base K fuel listed st -> RF A (Fl base n listed) st a w -> wpAny P md ops Q' fuel listed a w := by
 have hrd : ∀ listed i, i ∈ Region.ready md ops' listed ↔ i ∈ Region.ready md ops listed := fun listed i => by
  rw [mem_ready, mem_ready]
  by_cases e : i = L
  .subst e
   rw [hL, hL']
   constructor
   .rintro ⟨h1, o, h2, h3⟩; cases h2; exact ⟨h1, oL, rfl, h3⟩
   rintro ⟨h1, o, h2, h3⟩; cases h2; exact ⟨h1, Jo oL, rfl, h3⟩
  rw [heq i e]
 have hrd0 : ∀ listed, Region.ready md ops' listed = [] ↔ Region.ready md ops listed = [] := fun listed => by
  simp only [List.eq_nil_iff_forall_not_mem, hrd]
 have hne : ∀ listed : Array Bool, listed.size = n -> listed.getD L true = false -> Region.ready md ops listed ≠ [] := fun listed hs hl h0 => by
  have := SX h0 (others ++ [L]) [] (fun i hi => by simp at hi) (fun i hi => by
   rcases List.mem_append.1 hi with hi | hi
   .have := hin i hi; omega
   simp at hi; omega) ht L (by simp)
  rw [Array.getD_eq_getD_getElem?, Array.getElem?_eq_getElem (by omega : L < listed.size)] at this hl
  simp only [Option.getD_some] at this hl
  rw [this] at hl; cases hl
 intro fuel
 induction fuel with
 | zero => intro listed st a w hs _ hl hD _; exact absurd ((hrd0 _).1 hD.1) (hne _ hs hl)
 | succ fuel ih =>
  intro listed st a w hs hc hl hD hR
  refine ⟨fun h0 => absurd h0 (hne _ hs hl), fun i hi => ?_⟩
  obtain ⟨o, l, e, ho, hd, hrec⟩ := hD.2 i ((hrd _ _).2 hi)
  obtain ⟨hun, o', ho', hdep⟩ := mem_ready.1 hi
  by_cases hiL : i = L
  .subst hiL
   rw [hL] at ho'; cases ho'
   rw [hL'] at ho; cases ho
   have hoth : ∀ j ∈ others, listed.getD j false = true := fun j hj => P1 hc others.reverse [i] (fun k hk o hok x hx hb => by
    simp at hk; subst hk
    rw [hL] at hok; cases hok
    exact hdep x hx hb) hch j (List.mem_reverse.2 hj)
   have hend : Region.ready md ops (listed.setIfInBounds i true) = [] := by
    rw [List.eq_nil_iff_forall_not_mem]
    intro j hj
    obtain ⟨g1, o2, g2, _⟩ := mem_ready.1 hj
    have hjn : j < n := by rw [hn]; exact (Array.getElem?_eq_some_iff.1 g2).1
    by_cases hji : i = j
    .subst hji
     simp [show i < listed.size by omega] at g1
    rw [getD_set_ne true hji] at g1
    rcases hall j hjn with rfl | h
    .exact hji rfl
    have := hoth j h
    rw [Array.getD_eq_getD_getElem?, Array.getElem?_eq_getElem (by omega : j < listed.size)] at this g1
    simp only [Option.getD_some] at this g1
    rw [this] at g1; cases g1
   obtain ⟨st', hev, hk⟩ : ∃ st', GS (apS st (base + i) (Jo oL) l e) st' /\ K st' := by
    cases fuel with
    | zero => exact hrec.2
    | succ f => exact hrec.1 ((hrd0 _).2 hend)
   have he : e = .keep := by
    unfold Cm Jo at hd
    simp only [B6] at hd
    exact hd.1
   subst he
   have hap : apS st (base + i) (Jo oL) l .keep = st := rfl
   rw [hap] at hev
   have hR2 := hR.eqv hev
   have hRR : R A { st' with ctr := base + n } a w := by
    obtain ⟨⟨μ, x1, x2⟩, x3, x4⟩ := hR2
    exact ⟨⟨μ, x1.less fun id hid => .inl hid, x2⟩, x3, x4⟩
   unfold wpOp
   rw [hL]
   have hw : Region.wanted oL (yielded ops a.tmps) = true := by unfold Region.wanted; rw [hg]
   simp only [hw, if_true]
   obtain ⟨st2, hwk, hop⟩ := hK st' hk
   exact .inl (TV hE (S4 hop) (hwk _ _ hRR) fun st'' a' w' hF hR' => ZL hend (hQ st'' a' w' hF hR') fuel)
  rw [heq i hiL] at ho
  have hlt : i < n := by rw [hn]; exact (Array.getElem?_eq_some_iff.1 ho).1
  have hd' : Cm P AD ops (st.at (base + i)) o l e := by
   unfold Cm at hd ⊢
   cases hgo : o.guard with
   | none => rw [hgo] at hd; exact hd
   | some g =>
    obtain ⟨j, want⟩ := g
    rw [hgo] at hd
    have hjL : j ≠ L := by
     have := Array.all_eq_true'.1 hgs o (Array.mem_of_getElem? ho)
     rw [hgo] at this
     simpa using this
    have hgl : DO (st.at (base + i)) ops' j = DO (st.at (base + i)) ops j := by unfold DO; rw [heq j hjL]
    simp only [hgl] at hd ⊢
    exact hd
  refine RL (st := st.at (base + i)) hE ho ⟨hR.ex, hR.nt, hR.defers⟩ (.inr ⟨i, hlt, hun, rfl⟩) ⟨base + n, fun q hq => .inl hq⟩ hd' fun a' w' hR' => ?_
  refine ih _ _ _ _ (by simpa using hs) (fun k hk o2 ho2 x hx hb => ?_) (by rw [getD_set_ne true hiL]; exact hl) hrec ?_
  .by_cases hki : i = k
   .subst hki
    rw [ho] at ho2; cases ho2
    rw [ho] at ho'; cases ho'
    exact getD_set_true (hdep x hx hb)
   rw [getD_set_ne false hki] at hk
   exact getD_set_true (hc k hk o2 ho2 x hx hb)
  have hR'' : RF A (fun id => Fl base n listed id /\ id ≠ base + i) (apS st (base + i) o l e) a' w' := by
   obtain ⟨⟨μ, x1, x2⟩, x3, x4⟩ := hR'
   refine ⟨⟨μ, ?_, fun t ht => ?_⟩, ?_, x4⟩
   .rw [Bg] at x1 ⊢; exact x1
   .have := x2 t (by rw [GU] at ht ⊢; exact ht)
    rw [Bg, CZ] at this
    rw [Bg, CZ]; exact this
   rw [GU] at x3 ⊢; exact x3
  obtain ⟨⟨μ, x1, x2⟩, x3, x4⟩ := hR''
  refine ⟨⟨μ, x1.less fun id hid => ?_, x2⟩, x3, x4⟩
  rcases hid with hid | ⟨k, hk1, hk2, rfl⟩
  .exact ⟨.inl hid, by omega⟩
  have hik : i ≠ k := by
   rintro rfl
   simp [show i < listed.size by omega] at hk2
  exact ⟨.inr ⟨k, hk1, by rw [getD_set_ne true hik] at hk2; exact hk2, rfl⟩, by omega⟩
def KD : List Oper -> Option Oper
 | [] => none
 | [o] => some o
 | _ :: o :: r => KD (o :: r)
theorem P2 {o : Oper} : ∀ {l : List Oper}, KD l = some o -> ∃ pre, l = pre ++ [o]
 | [a], h => by simp [KD] at h; subst h; exact ⟨[], rfl⟩
 | a :: b :: l, h => by
  obtain ⟨pre, e⟩ := P2 (l := b :: l) (by simpa [KD] using h)
  exact ⟨a :: pre, by rw [e]; rfl⟩
def ZM (ops : List Oper) (others : List Nat) : Bool :=
 match KD ops with
 | none => false
 | some o => o.guard.isNone && (XL ops.toArray (ops.length - 1) && ((List.range ops.length).all (fun i => Nat.beq i (ops.length - 1) || others.contains i) && ((others.all fun i => Nat.blt i ops.length) &&
   (SW .any ops.toArray [] (others ++ [ops.length - 1]) && P0 .any ops.toArray [ops.length - 1] others.reverse))))
theorem ADL (q : Bool) (hE : BD P AD) (hm : P.follows .mixedOrders = true) {id : Nat} {ops : List Oper} {Q : Exit -> St -> Prop} {nt : Nat} {sl : List (Nat × LV)} {h : AS} {c : Nat} (others : List Nat) (n : Nat) {oL : Oper}
  (hq : (!q || AD.calm.isSome) = true) (hlast : KD ops = some oL) (hcl : ZM ops others = true) (hok : JH q AD.own .any (Nx ops).toArray (others ++ [ops.length - 1]) (Array.replicate ops.length false) = true) (hl : Nat.beq (others.length + 1) ops.length = true) (hn : Nat.beq ops.length n = true)
  (k : DL P A AD c n ⟨fun st => BB P A AD st oL.dst oL.op ⟨Q .normal, ⟨⟩⟩, ⟨⟩⟩ (G6 (Nx ops) (others ++ [n - 1])) ⟨nt, sl, h, c⟩) : B5 P A (.region id ops.toArray true) Q ⟨nt, sl, h, c⟩ := fun a w hR => by
 have hn' := Nat.eq_of_beq_eq_true hn
 subst hn'
 have hq' : q = true -> ∃ b, AD.calm = some b := fun e => by subst e; exact Option.isSome_iff_exists.1 (by simpa using hq)
 obtain ⟨pre, rfl⟩ := P2 hlast
 unfold ZM at hcl
 rw [hlast] at hcl
 simp only [Bool.and_eq_true, Option.isNone_iff_eq_none] at hcl
 obtain ⟨g0, g1, g2, g3, g4, g5⟩ := hcl
 have hlen : (pre ++ [oL]).length - 1 = pre.length := by simp
 rw [hlen] at g1 g2 g4 g5 hok k
 rw [Q6] at hok k
 have hsz : (pre ++ [Jo oL]).length = (pre ++ [oL]).length := by simp
 have hb : ((others ++ [pre.length]).all fun i => decide (i < (pre ++ [Jo oL]).length)) = true := by
  rw [List.all_eq_true] at g3 ⊢
  intro i hi
  rcases List.mem_append.1 hi with hi | hi
  .have := Nat.le_of_ble_eq_true (g3 i hi)
   simp only [List.length_append, List.length_cons, List.length_nil, decide_eq_true_eq] at this ⊢
   omega
  simp at hi; subst hi; simp
 rw [<- hsz] at k hok
 have hd := Kn (others ++ [pre.length]) _ hb k
 refine wp_region_any hm ?_
 have hR' := (hR.drawn (w.drawn + 1)).toRF
 have hfr : ∀ k, AJ (c + k) h = none := by
  intro k
  cases hx : AJ (c + k) h with
  | none => rfl
  | some o =>
   obtain ⟨⟨μ, hh, _⟩, _, _⟩ := hR
   obtain ⟨loc, h1, _⟩ := hh.obj _ _ hx
   rw [hh.fresh _ (by simp [Fr])] at h1; cases h1
 have hD := LB q hq' (others ++ [pre.length]) (Array.replicate (pre ++ [Jo oL]).length false) ⟨nt, sl, h, c⟩ hok (fun k _ => hfr k) hd
 have hol : (others ++ [pre.length]).length = (pre ++ [oL]).length := by
  have := Nat.eq_of_beq_eq_true hl
  simpa using this
 rw [hol, hsz] at hD
 have hs2 : (pre ++ [oL]).toArray.size = (pre ++ [oL]).length := by simp
 rw [hs2]
 have hL0 : pre.length < (pre ++ [oL]).length := by simp
 refine YJ (A := A) (n := (pre ++ [oL]).length) (L := pre.length) (oL := oL) (ops' := (pre ++ [Jo oL]).toArray) (F := Q .normal) (base := c) hE (by simp) (by simp) (by simp) (by simp) g0 (fun i hi => ?_) g1 (others := others) (fun i hi => ?_) (fun i hi => ?_) hL0 g4 g5
  (fun st a w hF hRR => ⟨st, hRR, hF⟩) (fun st hK => ⟨_, A8.refl _, hK⟩) (pre ++ [oL]).length _ _ a _ (by simp) (fun i hi => ?_) ?_ hD ?_
 .simp only [List.getElem?_toArray]
  rcases Nat.lt_trichotomy i pre.length with h' | h' | h'
  .rw [List.getElem?_append_left h', List.getElem?_append_left h']
  .exact absurd h' hi
  rw [List.getElem?_eq_none (by simp; omega), List.getElem?_eq_none (by simp; omega)]
 .have := List.all_eq_true.1 g2 i (List.mem_range.2 hi)
  simp only [Bool.or_eq_true, List.contains_iff_mem] at this
  exact this.imp (fun h => Nat.eq_of_beq_eq_true h) fun h => h
 .exact Nat.le_of_ble_eq_true (List.all_eq_true.1 g3 i hi)
 .exfalso
  rw [Array.getD_eq_getD_getElem?] at hi
  rcases Nat.lt_or_ge i (pre ++ [oL]).length with h' | h'
  .rw [Array.getElem?_eq_getElem (by simpa using h')] at hi; simp at hi
  rw [Array.getElem?_eq_none (by simpa using h')] at hi; simp at hi
 .rw [Array.getD_eq_getD_getElem?, Array.getElem?_eq_getElem (by simp)]; simp
 obtain ⟨⟨μ, x1, x2⟩, x3, x4⟩ := hR'
 refine ⟨⟨μ, x1.less fun id hid => ?_, x2⟩, x3, x4⟩
 rcases hid with hid | ⟨k, _, _, rfl⟩
 .simp only [Fr]; omega
 simp [Fr]
end
section
variable {α : Type} {enc : α -> List DV} {l r : List α} {h : AS} {e sz : Nat}
end
def RU {α : Type} (z : α) (l y : List α) : Option (List α) := if y.length = 0 \/ l.length < y.length then none else some (l.take (l.length - y.length) ++ List.replicate y.length z)
theorem AAJ {α : Type} {z : α} {l y r : List α} (h : RU z l y = some r) : l.length = r.length := by
 unfold RU at h
 split at h
 .cases h
 cases h; simp; omega
section
variable {P : Program} {A : BE} {AD : A4} {α : Type} {enc : α -> List DV} {nt : Nat} {sl : List (Nat × LV)} {h h' : AS} {c : Nat} {f : St -> Prop} {hf : IM f} {x : Operand} {t : Nat}
def AB9 (AD : A4) (t e : Nat) (z : List DV) : Bool := match AD.tt t with
 | some ti => match ti.sh with
  | .slc e' => Nat.beq e' e && (match AD.tt e with
   | some te => !te.sh.isAgg && te.zero.all DV.cell
   | none => false)
  | _ => false
 | none => false
theorem ACp {z : α} {l y r : List α} {n m : Int} {id e : Nat} {args : Array Operand} {ts : Array TypeId} (hy : Jz l n m = some y) (hend : m = l.length) (hr : RU z l y = some r) (ha : args.toList = [x]) (hts : ts.toList.head? = some t)
  (ht : AB9 AD t e (enc z) = true) (hz : (AD.tt e).map (·.zero) = some (enc z)) (hx : BC nt sl x = .lsl id 1 n.toNat (m - n).toNat) (hl : Be id h = some (.row e 1 (l.map enc))) (hu : J1 id (.row e 1 (r.map enc)) h some = some h')
  (kk : f ⟨nt, sl, h', c⟩) : BB P A AD ⟨nt, sl, h, c⟩ none (.call ⟨.builtin .clear, args, ts⟩) ⟨f, hf⟩ := by
 rw [BF (h := h) (c := c)] at hx
 rw [BL] at hl
 rw [Ff, Option.some.injEq] at hu
 subst hu hend
 obtain ⟨h1, h2⟩ := VW hy
 unfold RU at hr
 split at hr
 .cases hr
 rename_i hne
 cases hr
 unfold AB9 at ht
 split at ht
 .rename_i ti hti
  split at ht
  .rename_i e' hsh
   simp only [Bool.and_eq_true] at ht
   obtain ⟨he, ht⟩ := ht
   have he := Nat.eq_of_beq_eq_true he
   subst he
   split at ht
   .rename_i te hte
    simp only [Bool.and_eq_true, Bool.not_eq_true'] at ht
    rw [hte] at hz
    simp only [Option.map_some, Option.some.injEq] at hz
    obtain ⟨tl, htl⟩ : ∃ tl, ts.toList = t :: tl := by
     cases hq : ts.toList with
     | nil => rw [hq] at hts; cases hts
     | cons a b => rw [hq] at hts; cases hts; exact ⟨b, rfl⟩
    show JJ P A AD _ none _ _
    unfold JJ
    simp only [ha, htl]
    have hylen : y.length = ((l.length : Int) - n).toNat := by rw [<- h2]; simp; omega
    refine ⟨AU.2 ⟨ti, hti, B7.2 ⟨_, hsh, AU.2 ⟨te, hte, ?_⟩⟩⟩, trivial⟩
    show Z3 _ _ _ (St.eval _ x) _
    rw [hx]
    refine ⟨ht.1, rfl, by omega, ht.2, AR.2 ⟨_, hl, ?_⟩⟩
    dsimp only
    refine EZ.2 ⟨_, _, _, rfl, ?_⟩
    refine ⟨⟨rfl, rfl, by simp; omega⟩, ?_⟩
    have e1 : (l.take (l.length - y.length) ++ List.replicate y.length z).map enc = (l.map enc).take n.toNat ++ List.replicate ((l.length : Int) - n).toNat te.zero := by
     rw [List.map_append, List.map_replicate, <- hz, <- hylen, List.map_take]
     congr 2
     omega
    rw [<- e1]
    exact kk
   cases ht
  cases ht
 cases ht
end
end Go.E
/- The keys of a map of whole numbers, rising (slices.Sorted over maps.Keys), as a function that hands back a row of its own. For this seat's numbers of functions and types. -/
namespace Go.E
open Go Go.RowKit Go.Shelf Go.Proofs Go.Sort Go.Maps
def Uj (n : Int) : Bool := (Lit.int .i64 n).wf
def N7 : List Int -> Bool
 | [] => true
 | x :: l => !(l.any fun y => y == x) && N7 l
theorem Ow : ∀ l, N7 l = true ↔ l.Nodup
 | [] => by simp [N7]
 | x :: l => by
  simp only [N7, Bool.and_eq_true, Bool.not_eq_true', List.nodup_cons, Ow l, List.any_eq_false, beq_iff_eq]
  constructor
  .rintro ⟨h1, h2⟩; exact ⟨fun hm => h1 x hm rfl, h2⟩
  rintro ⟨h1, h2⟩; exact ⟨fun y hy e => h1 (e ▸ hy), h2⟩
def Nf (m : List (Int × Bool)) : Option (List Int) :=
 if decide (m.length * 8 <= 140737488355328) && N7 (m.map (·.1)) && m.all (fun p => Uj p.1) then some (EC (m.map (·.1))) else none
def QS : Ren := ⟨fun n => match n with | 6 => 109 | 7 => 110 | 8 => 144 | 9 => 137 | 10 => 145 | 11 => 164 | n => n, fun n => match n with | 0 => 0 | 3 => 4 | 4 => 4 | 23 => 143 | 24 => 50 | 26 => 3 | 27 => 177 | 28 => 178 | 33 => 151 | n => n, fun n => n⟩
theorem Uk : SlLaysZI.n7 Tryz.prog QS where
 mixed := by kernel_rfl
 f7 := ⟨Tryz.f110.name, by decide, by exact Tryz.func110⟩
 f10 := ⟨Tryz.f145.name, by decide, by exact Tryz.func145⟩
 t0 := Tryz.underlying0
 a0 := Tryz.isAgg0
 z0 := Tryz.sizeOf0
 v0 := Tryz.zeroValue0
 t4 := Tryz.underlying4
 a4 := Tryz.isAgg4
 z4 := Tryz.sizeOf4
 v4 := Tryz.zeroValue4
 t23 := Tryz.underlying143
 a23 := Tryz.isAgg143
 z23 := Tryz.sizeOf143
 v23 := Tryz.zeroValue143
 t26 := Tryz.underlying3
 a26 := Tryz.isAgg3
 z26 := Tryz.sizeOf3
 v26 := Tryz.zeroValue3
 t27 := Tryz.underlying177
 a27 := Tryz.isAgg177
 z27 := Tryz.sizeOf177
 v27 := Tryz.zeroValue177
 t28 := Tryz.underlying178
 a28 := Tryz.isAgg178
 z28 := Tryz.sizeOf178
 v28 := Tryz.zeroValue178
 t33 := Tryz.underlying151
 a33 := Tryz.isAgg151
 z33 := Tryz.sizeOf151
 v33 := Tryz.zeroValue151
theorem AAw : SlLaysZI.n6 Tryz.prog QS where
 mixed := by kernel_rfl
 f6 := ⟨Tryz.f109.name, by decide, by exact Tryz.func109⟩
 f8 := ⟨Tryz.f144.name, by decide, by exact Tryz.func144⟩
 f11 := ⟨Tryz.f164.name, by decide, by exact Tryz.func164⟩
 t0 := Tryz.underlying0
 a0 := Tryz.isAgg0
 z0 := Tryz.sizeOf0
 v0 := Tryz.zeroValue0
 t24 := Tryz.underlying50
 a24 := Tryz.isAgg50
 z24 := Tryz.sizeOf50
 v24 := Tryz.zeroValue50
 t26 := Tryz.underlying3
 a26 := Tryz.isAgg3
 z26 := Tryz.sizeOf3
 v26 := Tryz.zeroValue3
 t28 := Tryz.underlying178
 a28 := Tryz.isAgg178
 z28 := Tryz.sizeOf178
 v28 := Tryz.zeroValue178
 i26 := by kernel_rfl
theorem Zj {ρ : Ren} (Ls : Lays.n189 Tryz.prog ρ) (e : ρ.f 189 = 137) (m : Nat) : AnyZI.SortsIn Tryz.prog QS Fence.wide m :=
  ⟨fun blk off cap ss W hH hblk hsz => callsIn_wide.2 (by
      have := Any.slices_Sort_int Ls blk off cap ss W hH hblk hsz
      rw [e] at this; exact this),
   fun p cap W => callsIn_wide.2 (by
      have := Any.slices_Sort_int_none Ls p cap W
      rw [e] at this; exact this)⟩
set_option maxHeartbeats 1000000 in
theorem Wy {ρ : Ren} (Ls : Lays.n189 Tryz.prog ρ) (e : ρ.f 189 = 137) {H : Type} (b nn : Nat) (D0 : DataW H) (R : Value -> Option (DataW H × List MemPlace)) (w : World) (hown : w.ownsMap Tryz.prog 3 R b nn D0) (hmax : Maps.size D0 <= maxLen) (hbytes : Maps.size D0 * 8 <= 140737488355328) :
  Calls Tryz.prog 79 #[.map (some b)] w fun e w' => ∃ (v : Value) (ss : List Int), e = .returned v /\ ss.Perm (intKeys D0) /\
   w'.ownsRow w.heap.size 3 1 v ss.length ((ss.mergeSort (fun x y => decide (x <= y))).map encZ) /\ (v = .slice none 0 0 ↔ ss = []) /\ Below w.heap.size w w' := by
 refine (callsIn_wide (n := 6)).1 ?_
 have hbl := hown.lt
 have hseq : SeqGives Fence.wide 2 Tryz.prog 145 #[.pointer (some ⟨w.heap.size, 0, none⟩)] encZ (fun ss => ss.Perm (intKeys D0)) (Maps.size D0) (w.alloc (.cells #[.map (some b)] 143)) :=
  AnyZI.keys_gives (ρ := QS) { Uk with } Fence.wide _ trivial rfl (by omega) w.heap.size b nn D0 _ (by simp) (by simp) (by
   obtain ⟨es, clock, hb, Ft, hs, hD⟩ := hown
   exact ⟨es, clock, (Below.heap_alloc _ _ b hbl).trans hb, Ft, hs, hD⟩)
 have cK : ∀ mb W, CallsIn Fence.wide 5 Tryz.prog 110 #[.map mb] W fun e w' => e = .returned (.func (.func 145) #[] #[.pointer (some ⟨W.heap.size, 0, none⟩)]) /\ w' = W.alloc (.cells #[.map mb] 143) := fun mb W => AnyZI.keys_in Uk Fence.wide 5 trivial rfl mb W
 have cS := AnyZI.sorted_in AAw Fence.wide 5 trivial trivial trivial trivial rfl (by omega) (Zj Ls e _) (ED Tryz.func137 rfl rfl) 145 #[.pointer (some ⟨w.heap.size, 0, none⟩)] trivial (ED Tryz.func145 rfl rfl) _ _ hmax hbytes _ hseq
 change CallsIn _ _ Tryz.prog 109 _ _ _ at cS
 have hfK : Fence.wide.fn 110 := trivial
 have hfS : Fence.wide.fn 109 := trivial
 refine callsIn_of_wp Tryz.func79 rfl trivial ?_ rfl
 simp only [Tryz.ntmps79, List.size_toArray, List.length_cons, List.length_nil, Nat.reduceAdd, Nat.reduceSub, Array.replicate_succ, Array.replicate_zero, List.push_toArray, List.append_toArray, List.nil_append, List.cons_append]
 gi_wp2_with (first
  | (gi_at_call 110; refine (cK _ _).mono ?_; rintro e w' ⟨rfl, rfl⟩)
  | (gi_at_call 109; refine cS.mono ?_; rintro e w' ⟨v, ss, rfl, hS, hrow, hnil, hb⟩))
 go_ret
 exact ⟨v, ss, rfl, hS, ownsRow_base_a hrow (by simp), hnil, ((Below.refl _ w).alloc (Nat.le_refl _) _).trans (hb.mono (by simp))⟩
set_option maxHeartbeats 1000000 in
theorem Yj {ρ : Ren} (Ls : Lays.n189 Tryz.prog ρ) (e : ρ.f 189 = 137) (w : World) : Calls Tryz.prog 79 #[.map none] w fun e w' => e = .returned (.slice none 0 0) /\ Below w.heap.size w w' := by
 refine (callsIn_wide (n := 6)).1 ?_
 have hseq : SeqGives Fence.wide 2 Tryz.prog 145 #[.pointer (some ⟨w.heap.size, 0, none⟩)] encZ (fun ss : List Int => ss = []) 0 (w.alloc (.cells #[.map none] 143)) :=
  AnyZI.keys_gives_nil (ρ := QS) { Uk with } Fence.wide _ trivial rfl w.heap.size _ (by simp) (by simp)
 have cK : ∀ mb W, CallsIn Fence.wide 5 Tryz.prog 110 #[.map mb] W fun e w' => e = .returned (.func (.func 145) #[] #[.pointer (some ⟨W.heap.size, 0, none⟩)]) /\ w' = W.alloc (.cells #[.map mb] 143) := fun mb W => AnyZI.keys_in Uk Fence.wide 5 trivial rfl mb W
 have cS := AnyZI.sorted_in AAw Fence.wide 5 trivial trivial trivial trivial rfl (by omega) (Zj Ls e _) (ED Tryz.func137 rfl rfl) 145 #[.pointer (some ⟨w.heap.size, 0, none⟩)] trivial (ED Tryz.func145 rfl rfl) _ 0 (Nat.zero_le _) (by omega) _ hseq
 change CallsIn _ _ Tryz.prog 109 _ _ _ at cS
 have hfK : Fence.wide.fn 110 := trivial
 have hfS : Fence.wide.fn 109 := trivial
 refine callsIn_of_wp Tryz.func79 rfl trivial ?_ rfl
 simp only [Tryz.ntmps79, List.size_toArray, List.length_cons, List.length_nil, Nat.reduceAdd, Nat.reduceSub, Array.replicate_succ, Array.replicate_zero, List.push_toArray, List.append_toArray, List.nil_append, List.cons_append]
 gi_wp2_with (first
  | (gi_at_call 110; refine (cK _ _).mono ?_; rintro e w' ⟨rfl, rfl⟩)
  | (gi_at_call 109; refine cS.mono ?_; rintro e w' ⟨v, ss, rfl, rfl, hrow, hnil, hb⟩; obtain rfl : v = .slice none 0 0 := hnil.2 rfl))
 go_ret
 exact ⟨rfl, ((Below.refl _ w).alloc (Nat.le_refl _) _).trans (hb.mono (by simp))⟩
theorem Zk : 140737488355328 <= maxLen := Nat.le_of_ble_eq_true rfl
theorem Wz {O : Nat -> Prop} {w : World} {b : Nat} {es : Array MapEntry} {clock : Nat} {m : List (Int × Bool)} (hb : w.heap[b]? = some (.map es clock)) (hsz : es.size = m.length)
  (hbn : (es.toList.map (·.born)).Nodup /\ ∀ e ∈ es.toList, e.born < clock) (hk : ∀ (i : Nat) (e : MapEntry) (p : Int × Bool), es[i]? = some e -> m[i]? = some p -> Av O w e.key (.int .i64 p.1))
  (h1 : m.length <= maxLen) (h2 : (m.map (·.1)).Nodup) (h3 : ∀ p ∈ m, Uj p.1 = true) :
  ∃ D : DataW Unit, w.ownsMap Tryz.prog 3 (fun _ => some (.nil, [])) b m.length D /\ (intKeys D).Perm (m.map (·.1)) /\ Maps.size D = m.length := by
 have ikey : ∀ (u : Value) (n : Int), Av O w u (.int .i64 n) -> u = .int .i64 n := fun u n h => by cases h; rfl
 have key : ∀ (i : Nat) (e : MapEntry), es[i]? = some e -> ∃ p, m[i]? = some p /\ e.key = .int .i64 p.1 := fun i e he => by
  have hi : i < m.length := by have := (Array.getElem?_eq_some_iff.1 he).1; omega
  exact ⟨m[i], by simp [hi], ikey _ _ (hk i e m[i] he (by simp [hi]))⟩
 have ekey : es.toList.map (·.key) = m.map fun p => Value.int .i64 p.1 := by
  apply List.ext_getElem?
  intro i
  simp only [List.getElem?_map, Array.getElem?_toList]
  cases he : es[i]? with
  | none =>
   have : m.length <= i := by have := Array.getElem?_eq_none_iff.1 he; omega
   simp [this]
  | some e =>
   obtain ⟨p, hp, hv⟩ := key i e he
   simp [hp, hv]
 have rdw : ∀ x ∈ es.toList, ∃ n, x.key = .int .i64 n /\ WideElems.rd Tryz.prog 3 (fun _ => some ((.nil : DataW Unit), [])) x = some (.int .i64 n, .nil) := fun x hx => by
  obtain ⟨i, hi, rfl⟩ := List.mem_iff_getElem.1 hx
  obtain ⟨p, hp, hv⟩ := key i es.toList[i] (by rw [<- Array.getElem?_toList]; exact List.getElem?_eq_getElem hi)
  refine ⟨p.1, hv, ?_⟩
  have hw := h3 p (List.mem_of_getElem? hp)
  have hwf : (Lit.int .i64 p.1).wf = true := hw
  unfold WideElems.rd
  rw [hv]
  simp [keyOf, Tryz.underlying3, mapKey, hwf]
 refine ⟨.map ((es.toList.map (WideElems.rg Tryz.prog 3 fun _ => some (.nil, []))).foldr DataW.insert []), ⟨es, clock, hb, ⟨by omega, ⟨hbn.2, hbn.1, ?_⟩, fun x hx => by obtain ⟨n, _, h⟩ := rdw x hx; exact ⟨_, h⟩⟩, by omega, rfl⟩, ?_, ?_⟩
 .rw [ekey]
  rw [show (m.map fun p => Value.int .i64 p.1) = (m.map (·.1)).map (Value.int .i64) by simp [Function.comp_def]]
  exact List.Pairwise.map _ (fun a b hab e => hab (by cases e; rfl)) h2
 .show ((List.foldr DataW.insert [] _).map fun p => intOf p.1).Perm _
  refine ((WideShapes.sorted_perm _).map _).trans ?_
  refine List.Perm.of_eq ?_
  have h1' : ∀ x ∈ es.toList, ((fun p : Lit × DataW Unit => intOf p.1) ∘ WideElems.rg Tryz.prog 3 fun _ => some ((.nil : DataW Unit), [])) x = ((fun v : Value => (match v with | .int _ n => n | _ => 0)) ∘ fun e : MapEntry => e.key) x := fun x hx => by
   obtain ⟨n, hv, h⟩ := rdw x hx
   simp only [Function.comp]
   rw [WideElems.rg_of h, hv]; rfl
  rw [List.map_map, List.map_congr_left h1', <- List.map_map, ekey, List.map_map]
  rfl
 show List.length (List.foldr DataW.insert [] _) = _
 rw [(WideShapes.sorted_perm _).length_eq, List.length_map, Array.length_toList, hsz]
theorem ZC {ρ : Ren} (Ls : Lays.n189 Tryz.prog ρ) (e : ρ.f 189 = 137) (m : List (Int × Bool)) (r : List Int) (h : Nf m = some r) : HK Tryz.prog 79 [.map (Ao (.int .i64) .bool m)] 3 1 (r.map fun n => [.int .i64 n]) := by
 unfold Nf at h
 split at h
 .rename_i hc
  cases h
  simp only [Bool.and_eq_true, decide_eq_true_eq, List.all_eq_true, Ow] at hc
  obtain ⟨⟨hlen, hnd⟩, hin⟩ := hc
  refine ⟨ED Tryz.func79 rfl rfl, fun O w vs hO hsz hr => ?_⟩
  have hvs : ∃ a, vs = #[a] := by
   obtain ⟨l⟩ := vs
   match l, hsz with
   | [a], _ => exact ⟨a, rfl⟩
  obtain ⟨v0, rfl⟩ := hvs
  have h0 := hr 0 v0 _ rfl rfl
  generalize hgen : DV.map (Ao (.int .i64) .bool m) = dv at h0
  cases h0 with
  | mnil =>
   have hm : m = [] := by
    injection hgen with h
    simpa [Ao] using h
   subst hm
   refine (Yj Ls e w).mono ?_
   rintro en w' ⟨rfl, hb⟩
   exact ⟨_, rfl, ⟨by simp [EC], .inl ⟨rfl, rfl⟩⟩, hb⟩
  | map b es clock m' hOb hlt hb hsz' hbn hk hv =>
   injection hgen with hgen
   subst hgen
   obtain ⟨D, hown, hperm, hsize⟩ := Wz (m := m) hb (by simpa [Ao] using hsz') hbn (fun i e p he hp => hk i e _ he (by simp [Ao, hp]; rfl)) (Nat.le_trans (by omega) Zk) hnd hin
   refine (Wy Ls e b _ D _ w hown (by rw [hsize]; exact Nat.le_trans (by omega) Zk) (by rw [hsize]; exact hlen)).mono ?_
   rintro en w' ⟨v, ss, rfl, hS, hrow, hnil, hbel⟩
   refine ⟨v, rfl, ⟨fun x hx => by obtain ⟨n, _, rfl⟩ := List.mem_map.1 hx; rfl, ?_⟩, hbel⟩
   have hss : ss.mergeSort (fun x y => decide (x <= y)) = EC (m.map (·.1)) := by
    rw [<- V9]; exact mergeSort_of_perm_i (hS.trans hperm)
   rw [hss] at hrow
   have hl : (EC (m.map (·.1))).length = ss.length := by
    rw [<- hss, List.length_mergeSort]
   rcases hrow.2 with ⟨h1, h2⟩ | ⟨g, cap, cur, h1, h2, h3, h4, h5, h6, h7⟩
   .refine .inl ⟨h1, ?_⟩
    have : EC (m.map (·.1)) = [] := List.length_eq_zero_iff.1 (by omega)
    rw [this]; rfl
   refine .inr ⟨⟨g, 0, none⟩, g, 0, cap, cur, by rw [h1, List.length_map, hl], h2, (Array.getElem?_eq_some_iff.1 h3).1, fun _ => rfl, rfl, rfl, h3, by simpa using h6, by simp [hl]; exact h4, h5, ?_⟩
   intro i j x d u hx hd hu
   simp only [List.getElem?_map, Option.map_eq_some_iff] at hx
   obtain ⟨n, hn, rfl⟩ := hx
   have hj : j = 0 := by
    have := (List.getElem?_eq_some_iff.1 hd).1
    simp at this; omega
   subst hj
   simp only [List.getElem?_cons_zero, Option.some.injEq] at hd
   subst hd
   have hi := (List.getElem?_eq_some_iff.1 hn).1
   have hu' : (cur.toList.take (ss.length * 1))[i]? = some u := by
    rw [List.getElem?_take, if_pos (by omega), Array.getElem?_toList]
    simpa using hu
   rw [h7, List.getElem?_map, hn] at hu'
   cases hu'
   exact .int _ _
  | _ => cases hgen
 cases h
end Go.E
/- The program's data in plain Lean, and how they stand in cells. Written by a program (gen.py). No condition. -/
namespace Go.E
open Go Go.RowKit Go.Proofs
theorem bq {α β : Type} {o : Option α} {f : α -> Option β} {b : β} {G : Prop} (h : o.bind f = some b) (k : ∀ a, o = some a -> f a = some b -> G) : G := by
 obtain ⟨a, h1, h2⟩ := bd h
 exact k a h1 h2
abbrev bx (l : List DV) : BA := .box (l.map .p)
theorem Z {α : Type} {a : α} : a = a := rfl
theorem AL {σ : Type} {A : BE} {S : σ -> St} {st : St} {s t : σ} (h : some s = some t) (hw : A8 A st (S s)) : NP A S t .normal st := by
 cases h; exact npn hw
theorem Aq {σ Ans : Type} {A : BE} {S : σ -> St} {Q : Ans -> Exit -> St -> Prop} {st : St} {s : σ} {b : σ ⊕ Ans} (h : some (.inl s) = some b) (hw : A8 A st (S s)) : LP A S Q b .normal st := by
 cases h; exact lpn hw
theorem BG {σ Ans : Type} {A : BE} {S : σ -> St} {Q : Ans -> Exit -> St -> Prop} {st : St} {x : Ans} {b : σ ⊕ Ans} {id : Nat} (h : some (.inr x) = some b) (k : ∀ a, some x = some a -> Q a (.exit id) st) : LP A S Q b (.exit id) st := by
 cases h; exact lpx (k x rfl)
theorem A3 {σ Ans : Type} {A : BE} {S : σ -> St} {Q : Ans -> Exit -> St -> Prop} {st : St} {x : Ans} {b : σ ⊕ Ans} (h : some (.inr x) = some b) (k : ∀ a, some x = some a -> Q a .ret st) : LP A S Q b .ret st := by
 cases h; exact lpt (k x rfl)
theorem CF {σ Ans : Type} {A : BE} {S : σ -> St} {Q : Ans -> Exit -> St -> Prop} {st : St} {o : Option Ans} {b : σ ⊕ Ans} {id : Nat} (h : o.map .inr = some b) (k : ∀ a, o = some a -> Q a (.exit id) st) : LP A S Q b (.exit id) st := by
 obtain ⟨a, h1, rfl⟩ := mp h; exact lpx (k a h1)
theorem ADT {σ Ans : Type} {A : BE} {S : σ -> St} {Q : Ans -> Exit -> St -> Prop} {st : St} {o : Option Ans} {b : σ ⊕ Ans} (h : o.map .inr = some b) (k : ∀ a, o = some a -> Q a .ret st) : LP A S Q b .ret st := by
 obtain ⟨a, h1, rfl⟩ := mp h; exact lpt (k a h1)

instance : BEq ByteArray := ⟨fun a b => a.toList == b.toList⟩
def AP (n : Int) : Int := IntKind.wrap .i64 n
def Aa (n : Int) : List DV := [.int .i64 n]
def ACs (b : Bool) : List DV := [.bool b]
def Fo (s : ByteArray) : List DV := [.str s]
def Dm {α : Type} (sz : Nat) (enc : α -> List DV) (l : List α) : List DV := [.slice sz (l.map enc)]
def X8 {α : Type} (enc : α -> List DV) (p : Option α) : DV := match p with
 | none => .nilp
 | some x => .place (enc x) 0
def AB3 {α : Type} (enc : α -> List DV) (p : Option α) : List DV := [X8 enc p]
structure AI where
 elem : Int
 fin : Int
 deriving DecidableEq
def AW (x : AI) : List DV := [.int .i64 x.elem, .int .i64 x.fin]
theorem KB (x y : AI) : Bi (AW x) (AW y) = (x == y) := by
 rw [Bool.eq_iff_iff]
 rw [beq_iff_eq]
 simp only [AW, Bi, Dd, Bool.and_eq_true, beq_iff_eq, Bool.and_true]
 constructor
 .intro h
  obtain ⟨a1, a2⟩ := x; obtain ⟨b1, b2⟩ := y; simp only at h; simp [h]
 rintro rfl; simp
structure DG where
 a : AI
 b : AI
 deriving DecidableEq
def C1 (x : DG) : List DV := [.int .i64 x.a.elem, .int .i64 x.a.fin, .int .i64 x.b.elem, .int .i64 x.b.fin]
structure C2 where
 name : ByteArray
 kind : Int
 length : Int
 deriving DecidableEq
def CE (x : C2) : List DV := [.str x.name, .int .i64 x.kind, .int .i64 x.length]
structure By where
 name : ByteArray
 at_ : AI
 auto : Bool
 deriving DecidableEq
def BY (x : By) : List DV := [.str x.name, .int .i64 x.at_.elem, .int .i64 x.at_.fin, .bool x.auto]
structure CG where
 name : ByteArray
 elems : (List Int)
 deriving DecidableEq
def BZ (x : CG) : List DV := [.str x.name, .slice 1 (x.elems.map Aa)]
structure AK where
 elems : (List C2)
 joins : (List DG)
 signals : (List By)
 lines : (List CG)
 top : Int
 brake : Int
 margin : Int
 throw : Int
 hard : Bool
 deriving DecidableEq
def AN (x : AK) : List DV := [.slice 3 (x.elems.map CE), .slice 4 (x.joins.map C1), .slice 4 (x.signals.map BY), .slice 2 (x.lines.map BZ), .int .i64 x.top, .int .i64 x.brake, .int .i64 x.margin, .int .i64 x.throw, .bool x.hard]
structure Bo where
 a0 : Int
 a1 : Int
 deriving DecidableEq
def FZ (x : Bo) : List DV := [.int .i64 x.a0, .int .i64 x.a1]
structure Az where
 p : AK
 next : (List (AI × AI))
 reads : (List (AI × Int))
 line : (List (Int × Bo))
 lead : (List (Int × Int))
 deriving DecidableEq
def Ar (x : Az) : List DV := [.slice 3 (x.p.elems.map CE), .slice 4 (x.p.joins.map C1), .slice 4 (x.p.signals.map BY), .slice 2 (x.p.lines.map BZ), .int .i64 x.p.top, .int .i64 x.p.brake, .int .i64 x.p.margin, .int .i64 x.p.throw, .bool x.p.hard, .map (Ao (fun x => .agg (AW x)) (fun x => .agg (AW x)) x.next), .map (Ao (fun x => .agg (AW x)) (.int .i64) x.reads), .map (Ao (.int .i64) (fun x => .agg (FZ x)) x.line), .map (Ao (.int .i64) (.int .i64) x.lead)]
structure Ai where
 elem : Int
 in_ : Int
 out : Int
 deriving DecidableEq
def Ax (x : Ai) : List DV := [.int .i64 x.elem, .int .i64 x.in_, .int .i64 x.out]
structure Bl where
 out : Int
 pos : Int
 deriving DecidableEq
def Dz (x : Bl) : List DV := [.int .i64 x.out, .int .i64 x.pos]
structure Om where
 berth : Int
 steps : (List Ai)
 pos : (List Int)
 left : (List (List Bl))
 deriving DecidableEq
def Tp (x : Om) : List DV := [.int .i64 x.berth, .slice 3 (x.steps.map Ax), .slice 1 (x.pos.map Aa), .slice 1 (x.left.map (Dm 2 Dz))]
structure Ap where
 elem : Int
 pos : Int
 deriving DecidableEq
def A2 (x : Ap) : List DV := [.int .i64 x.elem, .int .i64 x.pos]
theorem AAM (x y : Ap) : Bi (A2 x) (A2 y) = (x == y) := by
 rw [Bool.eq_iff_iff]
 rw [beq_iff_eq]
 simp only [A2, Bi, Dd, Bool.and_eq_true, beq_iff_eq, Bool.and_true]
 constructor
 .intro h
  obtain ⟨a1, a2⟩ := x; obtain ⟨b1, b2⟩ := y; simp only at h; simp [h]
 rintro rfl; simp
structure Ag where
 frm : Int
 to : Int
 fin : Int
 steps : (List Ai)
 needs : (List Ap)
 guards : (List Ap)
 zone : (List Int)
 holds : (List Int)
 bare : Bool
 deriving DecidableEq
def A6 (x : Ag) : List DV := [.int .i64 x.frm, .int .i64 x.to, .int .i64 x.fin, .slice 3 (x.steps.map Ax), .slice 2 (x.needs.map A2), .slice 2 (x.guards.map A2), .slice 1 (x.zone.map Aa), .slice 1 (x.holds.map Aa), .bool x.bare]
structure DX where
 plan : AK
 roads : (List Ag)
 deriving DecidableEq
def Ee (x : DX) : List DV := [.slice 3 (x.plan.elems.map CE), .slice 4 (x.plan.joins.map C1), .slice 4 (x.plan.signals.map BY), .slice 2 (x.plan.lines.map BZ), .int .i64 x.plan.top, .int .i64 x.plan.brake, .int .i64 x.plan.margin, .int .i64 x.plan.throw, .bool x.plan.hard, .slice 9 (x.roads.map A6)]
structure BM where
 name : ByteArray
 len : Int
 top : Int
 acc : Int
 brake : Int
 deriving DecidableEq
def BN (x : BM) : List DV := [.str x.name, .int .i64 x.len, .int .i64 x.top, .int .i64 x.acc, .int .i64 x.brake]
structure C4 where
 turn : Bool
 at_ : Int
 fin : Int
 to : Int
 deriving DecidableEq
def DI (x : C4) : List DV := [.bool x.turn, .int .i64 x.at_, .int .i64 x.fin, .int .i64 x.to]
structure Dg where
 name : ByteArray
 stock : Int
 frm : Int
 left : Int
 legs : (List C4)
 deriving DecidableEq
def B4 (x : Dg) : List DV := [.str x.name, .int .i64 x.stock, .int .i64 x.frm, .int .i64 x.left, .slice 4 (x.legs.map DI)]
structure Ac where
 begin : Int
 stock : (List BM)
 runs : (List Dg)
 deriving DecidableEq
def AV (x : Ac) : List DV := [.int .i64 x.begin, .slice 5 (x.stock.map BN), .slice 5 (x.runs.map B4)]
structure DH where
 free : (List Int)
 fin : Int
 deriving DecidableEq
def G9 (x : DH) : List DV := [.slice 1 (x.free.map Aa), .int .i64 x.fin]
structure D9 where
 at_ : (List Int)
 legs : (List DH)
 deriving DecidableEq
def Nh (x : D9) : List DV := [.slice 1 (x.at_.map Aa), .slice 2 (x.legs.map G9)]
structure Ok where
 name : ByteArray
 stock : Int
 at_ : AI
 left : Int
 deriving DecidableEq
def Nj (x : Ok) : List DV := [.str x.name, .int .i64 x.stock, .int .i64 x.at_.elem, .int .i64 x.at_.fin, .int .i64 x.left]
structure MG where
 mode : Int
 trail : (List AI)
 left : Int
 over : Int
 v : Int
 deriving DecidableEq
def X5 (x : MG) : List DV := [.int .i64 x.mode, .slice 2 (x.trail.map AW), .int .i64 x.left, .int .i64 x.over, .int .i64 x.v]
theorem CN : IF AD 40 (fun x => .agg (AW x)) := ⟨fun a b => (KB a b), fun _ => rfl⟩
theorem Gd : IF AD 3 (.int .i64) := ⟨fun _ _ => rfl, fun _ => rfl⟩
theorem Nt : IF AD 9 .str := ⟨fun _ _ => rfl, fun _ => rfl⟩
def AB7 : Go.Shelf.Ren := ⟨fun n => match n with | 125 => 163 | 128 => 178 | 129 => 179 | 189 => 137 | 215 => 185 | 216 => 175 | 257 => 162 | 294 => 169 | 295 => 170 | 296 => 171 | 297 => 172 | 298 => 173 | 299 => 174 | 300 => 176 | 301 => 177 | 328 => 180 | 329 => 181 | 330 => 182 | 331 => 183 | 332 => 184 | 343 => 186 | n => n, fun n => match n with | 0 => 0 | 3 => 3 | 4 => 4 | 5 => 5 | 9 => 9 | 28 => 50 | 46 => 227 | 51 => 239 | 53 => 241 | 131 => 137 | 182 => 232 | 183 => 233 | 218 => 244 | 222 => 248 | 228 => 250 | 229 => 144 | n => n, fun n => n⟩
theorem ZD : Go.Proofs.Lays.n189 Tryz.prog AB7 where
 mixed := mixed
 f125 := by exact Tryz.func163
 f128 := by exact Tryz.func178
 f129 := by exact Tryz.func179
 f189 := by exact Tryz.func137
 f215 := by exact Tryz.func185
 f216 := by exact Tryz.func175
 f257 := by exact Tryz.func162
 f294 := by exact Tryz.func169
 f295 := by exact Tryz.func170
 f296 := by exact Tryz.func171
 f297 := by exact Tryz.func172
 f298 := by exact Tryz.func173
 f299 := by exact Tryz.func174
 f300 := by exact Tryz.func176
 f301 := by exact Tryz.func177
 f328 := by exact Tryz.func180
 f329 := by exact Tryz.func181
 f330 := by exact Tryz.func182
 f331 := by exact Tryz.func183
 f332 := by exact Tryz.func184
 f343 := by exact Tryz.func186
 t0 := Tryz.underlying0
 a0 := Tryz.isAgg0
 z0 := Tryz.sizeOf0
 v0 := Tryz.zeroValue0
 t3 := Tryz.underlying3
 a3 := Tryz.isAgg3
 z3 := Tryz.sizeOf3
 v3 := Tryz.zeroValue3
 t4 := Tryz.underlying4
 a4 := Tryz.isAgg4
 z4 := Tryz.sizeOf4
 v4 := Tryz.zeroValue4
 t5 := Tryz.underlying5
 a5 := Tryz.isAgg5
 z5 := Tryz.sizeOf5
 v5 := Tryz.zeroValue5
 t9 := Tryz.underlying9
 a9 := Tryz.isAgg9
 z9 := Tryz.sizeOf9
 v9 := Tryz.zeroValue9
 t28 := Tryz.underlying50
 a28 := Tryz.isAgg50
 z28 := Tryz.sizeOf50
 v28 := Tryz.zeroValue50
 t46 := Tryz.underlying227
 a46 := Tryz.isAgg227
 z46 := Tryz.sizeOf227
 v46 := Tryz.zeroValue227
 t51 := Tryz.underlying239
 a51 := Tryz.isAgg239
 z51 := Tryz.sizeOf239
 v51 := Tryz.zeroValue239
 t53 := Tryz.underlying241
 a53 := Tryz.isAgg241
 z53 := Tryz.sizeOf241
 v53 := Tryz.zeroValue241
 t131 := Tryz.underlying137
 a131 := Tryz.isAgg137
 z131 := Tryz.sizeOf137
 v131 := Tryz.zeroValue137
 t182 := Tryz.underlying232
 a182 := Tryz.isAgg232
 z182 := Tryz.sizeOf232
 v182 := Tryz.zeroValue232
 t183 := Tryz.underlying233
 a183 := Tryz.isAgg233
 z183 := Tryz.sizeOf233
 v183 := Tryz.zeroValue233
 t218 := Tryz.underlying244
 a218 := Tryz.isAgg244
 z218 := Tryz.sizeOf244
 v218 := Tryz.zeroValue244
 t222 := Tryz.underlying248
 a222 := Tryz.isAgg248
 z222 := Tryz.sizeOf248
 v222 := Tryz.zeroValue248
 t228 := Tryz.underlying250
 a228 := Tryz.isAgg250
 z228 := Tryz.sizeOf250
 v228 := Tryz.zeroValue250
 t229 := Tryz.underlying144
 a229 := Tryz.isAgg144
 z229 := Tryz.sizeOf144
 v229 := Tryz.zeroValue144
def AB8 : Go.Shelf.Ren := ⟨fun n => match n with | 20 => 138 | n => n, fun n => match n with | 0 => 0 | 3 => 3 | 4 => 4 | 22 => 50 | n => n, fun n => n⟩
theorem AB6 : Go.Proofs.Lays2.n20 Tryz.prog AB8 where
 mixed := mixed
 f20 := by exact Tryz.func138
 t0 := Tryz.underlying0
 a0 := Tryz.isAgg0
 z0 := Tryz.sizeOf0
 v0 := Tryz.zeroValue0
 t3 := Tryz.underlying3
 a3 := Tryz.isAgg3
 z3 := Tryz.sizeOf3
 v3 := Tryz.zeroValue3
 t4 := Tryz.underlying4
 a4 := Tryz.isAgg4
 z4 := Tryz.sizeOf4
 v4 := Tryz.zeroValue4
 t22 := Tryz.underlying50
 a22 := Tryz.isAgg50
 z22 := Tryz.sizeOf50
 v22 := Tryz.zeroValue50
 i3 := by kernel_rfl
end Go.E
/- Plain functions, and walks in step with them. Written by a program (gen.py). No condition. -/
set_option maxRecDepth 100000
set_option maxHeartbeats 1000000
namespace Go.E
open Go Go.RowKit Go.Proofs
noncomputable def HO (a : Int) (b : Int) (c : Int) (d : Int) : Option DG :=
 some (⟨(⟨a, b⟩ : AI), (⟨c, d⟩ : AI)⟩ : DG)
theorem Ku (a : Int) (b : Int) (c : Int) (d : Int) (r : DG) (h : HO a b c d = some r) : Aw Tryz.prog 63 [.int .i64 a, .int .i64 b, .int .i64 c, .int .i64 d] (· = .agg (C1 r)) := by
 refine fn AA Tryz.func63 Z Z 16 Z [.cell 8 125] Z [(0, .p (.int .i64 a)), (1, .p (.int .i64 b)), (2, .p (.int .i64 c)), (3, .p (.int .i64 d))] Z Z fun A hA => ?_
 unfold HO at h
 refine rs AA <| rl Z <| rs AA <| rl Z <| AF ?_
 cases h
 exact er Z Le.rfl
noncomputable def Og : Option AK :=
 (HO 0 0 1 0).bind fun a => (HO 1 1 2 0).bind fun b => (HO 2 1 3 0).bind fun c => (HO 3 1 5 0).bind fun d => (HO 2 2 4 0).bind fun e => some (⟨[(⟨(⟨#[87]⟩ : ByteArray), 4, 0⟩ : C2), (⟨(⟨#[65]⟩ : ByteArray), 1, 20⟩ : C2), (⟨(⟨#[80]⟩ : ByteArray), 2, 10⟩ : C2), (⟨(⟨#[66]⟩ : ByteArray), 1, 20⟩ : C2), (⟨(⟨#[67]⟩ : ByteArray), 1, 30⟩ : C2), (⟨(⟨#[69]⟩ : ByteArray), 4, 0⟩ : C2)], [a, b, c, d, e], [(⟨(⟨#[119]⟩ : ByteArray), (⟨0, 0⟩ : AI), false⟩ : By), (⟨(⟨#[97]⟩ : ByteArray), (⟨1, 1⟩ : AI), false⟩ : By), (⟨(⟨#[101]⟩ : ByteArray), (⟨5, 0⟩ : AI), false⟩ : By), (⟨(⟨#[98]⟩ : ByteArray), (⟨3, 0⟩ : AI), false⟩ : By), (⟨(⟨#[99]⟩ : ByteArray), (⟨4, 0⟩ : AI), false⟩ : By)], [], 10, 5, 15, 2, false⟩ : AK)
theorem X2 (r : AK) (h : Og = some r) : Aw Tryz.prog 32 [] (· = .agg (AN r)) := by
 refine fn AA Tryz.func32 Z Z 31 Z [.cell 0 27] Z [] Z Z fun A hA => ?_
 unfold Og at h
 refine rs AA <| rl Z <| rs AA <| rl Z <| rs AA <| rl Z <| rs AA <| bq h fun l a f => sx Z (AM (Ku _ _ _ _ _ a) (.inl Z) Z Z Z <| bq f fun m b g => sx Z (AM (Ku _ _ _ _ _ b) (.inl Z) Z Z Z <| bq g fun n c i => sx Z (AM (Ku _ _ _ _ _ c) (.inl Z) Z Z Z <| bq i fun o d j => sx Z (AM (Ku _ _ _ _ _ d) (.inl Z) Z Z Z <| bq j fun q e k => sx Z (AM (Ku _ _ _ _ _ e) (.inl Z) Z Z Z <| rl Z <| rs AA <| rl Z <| rs AA <| rl Z <| AF ?_)))))
 cases k
 exact er (IA Z (.agg (.cons (.own (enc := CE) ([(⟨(⟨#[87]⟩ : ByteArray), 4, 0⟩ : C2), (⟨(⟨#[65]⟩ : ByteArray), 1, 20⟩ : C2), (⟨(⟨#[80]⟩ : ByteArray), 2, 10⟩ : C2), (⟨(⟨#[66]⟩ : ByteArray), 1, 20⟩ : C2), (⟨(⟨#[67]⟩ : ByteArray), 1, 30⟩ : C2), (⟨(⟨#[69]⟩ : ByteArray), 4, 0⟩ : C2)] : List C2) Z Z) (.cons (.own (enc := C1) ([l, m, n, o, q] : List DG) Z Z) (.cons (.own (enc := BY) ([(⟨(⟨#[119]⟩ : ByteArray), (⟨0, 0⟩ : AI), false⟩ : By), (⟨(⟨#[97]⟩ : ByteArray), (⟨1, 1⟩ : AI), false⟩ : By), (⟨(⟨#[101]⟩ : ByteArray), (⟨5, 0⟩ : AI), false⟩ : By), (⟨(⟨#[98]⟩ : ByteArray), (⟨3, 0⟩ : AI), false⟩ : By), (⟨(⟨#[99]⟩ : ByteArray), (⟨4, 0⟩ : AI), false⟩ : By)] : List By) Z Z) (.cons (.p _) (.cons (.p _) (.cons (.p _) (.cons (.p _) (.cons (.p _) (.cons (.p _) .nil))))))))))) (Le.agg' (.cons Le.rfl (.cons Le.rfl (.cons Le.rfl (.cons (Le.nil _) (.cons Le.rfl (.cons Le.rfl (.cons Le.rfl (.cons Le.rfl (.cons Le.rfl .nil))))))))))
noncomputable def IU (b : AK) (a : Int) : Option (Int ⊕ Bool) :=
 bif decide (a < (b.signals.length : Int)) then (AY b.signals a).bind fun c => bif decide (100 < (c.name.size : Int)) then some (.inr false) else some (.inl (AP (a + 1))) else some (.inr true)
noncomputable def IV (b : AK) (a : Int) : Option (Int ⊕ Bool) :=
 bif decide (a < (b.elems.length : Int)) then (AY b.elems a).bind fun c => bif decide (100 < (c.name.size : Int)) then some (.inr false) else some (.inl (AP (a + 1))) else (AO (IU b) 0).map .inr
noncomputable def KS (b : AK) (a : Int) : Option (Int ⊕ Bool) :=
 bif decide (a < (b.lines.length : Int)) then (((AY b.lines a).bind fun d => bif decide (60 < (d.elems.length : Int)) then some true else (AY b.lines a).bind fun e => some (decide (100 < (e.name.size : Int))) : Option (Bool))).bind fun (c : Bool) => bif c then some (.inr false) else some (.inl (AP (a + 1))) else (AO (IV b) 0).map .inr
noncomputable def MA (a : AK) : Option Bool :=
 ((bif decide (60 < (a.elems.length : Int)) then some true else bif decide (120 < (a.joins.length : Int)) then some true else bif decide (60 < (a.signals.length : Int)) then some true else some (decide (20 < (a.lines.length : Int))) : Option (Bool))).bind fun (b : Bool) => bif b then some false else AO (KS a) 0
theorem AAI (b : AK) (r : Bool) (h : MA b = some r) : Aw Tryz.prog 64 [.agg (AN b)] (· = .bool r) := by
 refine fn AA Tryz.func64 Z Z 83 Z [.tmp 2] Z [(0, .p (.agg (AN b)))] Z Z fun A hA => ?_
 unfold MA at h
 refine rs AA <| rl Z <| AB <| jb (fun d : Bool => ⟨83, [(1, .lpb 0 0), (27, lb d)], [(0, bx (AN b))], 1⟩) h (fun d u => ?_) (fun d am => ?_)
 .refine rg AA <| rn 2 Z <| sx Z (Ae Z Z <| rn 2 Z <| gs 10 u Z Z Z (fun v => ?_) (fun ac => ?_))
  .exact rl Z <| AL v (wf hA [(0, 0)] Z Z Z)
  refine rn 2 Z <| sx Z (Ae Z Z <| rn 3 Z <| gs 16 ac Z Z Z (fun ai => ?_) (fun aj => ?_))
  .exact rl Z <| AL ai (wf hA [(0, 0)] Z Z Z)
  refine rn 2 Z <| sx Z (Ae Z Z <| rn 3 Z <| gs 22 aj Z Z Z (fun ak => ?_) (fun al => ?_))
  .exact rl Z <| AL ak (wf hA [(0, 0)] Z Z Z)
  exact rn 2 Z <| sx Z (Ae Z Z <| rl Z <| AL al (wf hA [(0, 0)] Z Z Z))
 refine cd Z am (fun an => ?_) (fun ao => ?_)
 .refine rs AA <| rl Z <| AF <| AG ?_
  cases an
  exact er Z Le.rfl
 refine AE <| AC <| AB <| rs AA <| rl Z <| AH ?_
 apply lp (a := r) (fun c : Int => ⟨83, [(1, .lpb 0 0), (3, li c)], [(0, bx (AN b))], 1⟩) ao
 . exact wf hA [(0, 0)] Z Z Z
 intro c a9 f
 unfold KS at f
 refine AB <| rs AA <| rn 3 Z <| sx Z (Ae Z Z <| rl Z <| cd Z f (fun t => ?_) (fun ag => ?_))
 .refine AE <| AC <| AB <| AH <| jb (fun e : Bool => ⟨83, [(1, .lpb 0 0), (3, li c), (52, lb e)], [(0, bx (AN b))], 1⟩) t (fun e w => ?_) (fun e ab => ?_)
  .refine rg AA <| rn 3 Z <| bq w fun bc n x => sx Z (Ab n Z Z Z <| rn 2 Z <| sx Z (Ae Z Z <| rn 2 Z <| gs 43 x Z Z Z (fun y => ?_) (fun z => ?_)))
   .exact rl Z <| AL y (wf hA [(0, 0)] Z Z Z)
   exact rn 3 Z <| bq z fun be o aa => sx Z (Ab o Z Z Z <| rl Z <| AL aa (wf hA [(0, 0)] Z Z Z))
  refine cd Z ab (fun ad => ?_) (fun af => ?_)
  .refine rs AA <| rl Z <| AF <| AQ <| AG <| A3 ad fun a5 ae => AQ <| AG ?_
   cases ae
   exact er Z Le.rfl
  exact AE <| Ad <| AC <| rg AA <| rl Z <| Aq af (wf hA [(0, 0)] Z Z Z)
 refine AT <| AZ <| CF ag fun l ah => An <| AC <| AB <| rs AA <| rl Z <| AH ?_
 apply lp (a := l) (fun j : Int => ⟨83, [(1, .lpb 0 0), (4, li j)], [(0, bx (AN b))], 1⟩) ah
 . exact wf hA [(0, 0)] Z Z Z
 intro j ba g
 unfold IV at g
 refine AB <| rs AA <| rn 3 Z <| sx Z (Ae Z Z <| rl Z <| cd Z g (fun ap => ?_) (fun aw => ?_))
 .refine AE <| AC <| AB <| AH <| rs AA <| rn 3 Z <| bq ap fun bf q aq => sx Z (Ab q Z Z Z <| rl Z <| cd Z aq (fun ar => ?_) (fun av => ?_))
  .refine rs AA <| rl Z <| AF <| AQ <| AG <| A3 ar fun a6 au => AQ <| AG ?_
   cases au
   exact er Z Le.rfl
  exact AE <| Ad <| AC <| rg AA <| rl Z <| Aq av (wf hA [(0, 0)] Z Z Z)
 refine AT <| AZ <| CF aw fun m ax => An <| AC <| AB <| rs AA <| rl Z <| AH ?_
 apply lp (a := m) (fun k : Int => ⟨83, [(1, .lpb 0 0), (5, li k)], [(0, bx (AN b))], 1⟩) ax
 . exact wf hA [(0, 0)] Z Z Z
 intro k bb i
 unfold IU at i
 refine AB <| rs AA <| rn 3 Z <| sx Z (Ae Z Z <| rl Z <| cd Z i (fun ay => ?_) (fun a3 => ?_))
 .refine AE <| AC <| AB <| AH <| rs AA <| rn 3 Z <| bq ay fun bg s az => sx Z (Ab s Z Z Z <| rl Z <| cd Z az (fun a0 => ?_) (fun a2 => ?_))
  .refine rs AA <| rl Z <| AF <| AQ <| AG <| A3 a0 fun a7 a1 => AQ <| AG ?_
   cases a1
   exact er Z Le.rfl
  exact AE <| Ad <| AC <| rg AA <| rl Z <| Aq a2 (wf hA [(0, 0)] Z Z Z)
 refine AT <| AZ <| BG a3 fun a8 a4 => An <| AC <| rs AA <| rl Z <| AF ?_
 cases a4
 exact er Z Le.rfl
noncomputable def Ew (b : AK) (d : (Int × (List ByteArray))) (c : (Int × (List ByteArray))) (a : Int × (List ByteArray)) : Option ((Int × (List ByteArray)) ⊕ ((List ByteArray) × (List ByteArray) × (List ByteArray))) :=
 bif decide (a.1 < (b.lines.length : Int)) then (AY b.lines a.1).bind fun e => (Bs a.2 [e.name]).bind fun f => some (.inl (AP (a.1 + 1), f)) else some (.inr (d.2, c.2, a.2))
noncomputable def Ex (b : AK) (c : (Int × (List ByteArray))) (a : Int × (List ByteArray)) : Option ((Int × (List ByteArray)) ⊕ ((List ByteArray) × (List ByteArray) × (List ByteArray))) :=
 bif decide (a.1 < (b.signals.length : Int)) then (AY b.signals a.1).bind fun d => (Bs a.2 [d.name]).bind fun e => some (.inl (AP (a.1 + 1), e)) else (AO (Ew b c a) (0, ([] : List ByteArray))).map .inr
noncomputable def GZ (b : AK) (a : Int × (List ByteArray)) : Option ((Int × (List ByteArray)) ⊕ ((List ByteArray) × (List ByteArray) × (List ByteArray))) :=
 bif decide (a.1 < (b.elems.length : Int)) then (AY b.elems a.1).bind fun c => (Bs a.2 [c.name]).bind fun d => some (.inl (AP (a.1 + 1), d)) else (AO (Ex b a) (0, ([] : List ByteArray))).map .inr
noncomputable def JR (a : AK) : Option ((List ByteArray) × (List ByteArray) × (List ByteArray)) :=
 AO (GZ a) (0, ([] : List ByteArray))
theorem X3 (e : AK) (r : ((List ByteArray) × (List ByteArray) × (List ByteArray))) (h : JR e = some r) : Aw Tryz.prog 95 [.agg (AN e)] (· = .tup [.slice 1 (r.1.map Fo), .slice 1 (r.2.1.map Fo), .slice 1 (r.2.2.map Fo)]) := by
 refine fn AA Tryz.func95 Z Z 62 Z [.tmp 2, .tmp 3, .tmp 4] Z [(0, .p (.agg (AN e)))] Z Z fun A hA => ?_
 unfold JR at h
 refine rs AA <| rl Z <| rs AA <| rl Z <| AB <| rs AA <| rl Z <| AH ?_
 apply lp (a := r) (fun b : (Int × (List ByteArray)) => ⟨62, [(1, .lpb 0 0), (5, .lsl 1 1 0 b.2.length), (6, .p (.nils)), (7, .p (.nils)), (8, li b.1)], [(0, bx (AN e)), (1, .row 9 1 (b.2.map Fo))], 2⟩) h
 . exact A8.trans (CS 5 9 1 Z) (wf hA [(0, 0), (1, 1)] Z Z Z)
 intro b aq i
 unfold GZ at i
 refine AB <| rs AA <| rn 3 Z <| sx Z (Ae Z Z <| rl Z <| cd Z i (fun aj => ?_) (fun x => ?_))
 .exact AE <| AC <| AB <| AH <| rg AA <| rn 4 Z <| bq aj fun ak n v => sx Z (Ab n Z Z Z <| rn 3 Z <| bq v fun ar o w => sx Z (BW (enc := Fo) (l := b.2) (m := [ak.name]) o (fun _ => ⟨Z, Z⟩) Z Z Z Z Z Z <| rl Z <| Ad <| AC <| rg AA <| rl Z <| Aq w (wf hA [(0, 0), (1, 3)] Z Z Z)))
 refine AT <| AZ <| CF x fun j y => An <| AC <| AB <| rs AA <| rl Z <| AH ?_
 apply lp (a := j) (fun c : (Int × (List ByteArray)) => ⟨62, [(1, .lpb 0 0), (5, .lsl 1 1 0 b.2.length), (6, .lsl 2 1 0 c.2.length), (7, .p (.nils)), (9, li c.1)], [(0, bx (AN e)), (1, .row 9 1 (b.2.map Fo)), (2, .row 9 1 (c.2.map Fo))], 3⟩) y
 . exact A8.trans (CS 6 9 1 Z) (wf hA (gi 3 []) Z Z Z)
 intro c ao f
 unfold Ex at f
 refine AB <| rs AA <| rn 3 Z <| sx Z (Ae Z Z <| rl Z <| cd Z f (fun z => ?_) (fun ac => ?_))
 .exact AE <| AC <| AB <| AH <| rg AA <| rn 4 Z <| bq z fun al q aa => sx Z (Ab q Z Z Z <| rn 3 Z <| bq aa fun au s ab => sx Z (BW (enc := Fo) (l := c.2) (m := [al.name]) s (fun _ => ⟨Z, Z⟩) Z Z Z Z Z Z <| rl Z <| Ad <| AC <| rg AA <| rl Z <| Aq ab (wf hA [(0, 0), (1, 1), (2, 4)] Z Z Z)))
 refine AT <| AZ <| CF ac fun k ad => An <| AC <| AB <| rs AA <| rl Z <| AH ?_
 apply lp (a := k) (fun d : (Int × (List ByteArray)) => ⟨62, [(1, .lpb 0 0), (5, .lsl 1 1 0 b.2.length), (6, .lsl 2 1 0 c.2.length), (7, .lsl 3 1 0 d.2.length), (10, li d.1)], [(0, bx (AN e)), (1, .row 9 1 (b.2.map Fo)), (2, .row 9 1 (c.2.map Fo)), (3, .row 9 1 (d.2.map Fo))], 4⟩) ad
 . exact A8.trans (CS 7 9 1 Z) (wf hA (gi 4 []) Z Z Z)
 intro d ap g
 unfold Ew at g
 refine AB <| rs AA <| rn 3 Z <| sx Z (Ae Z Z <| rl Z <| cd Z g (fun ae => ?_) (fun ah => ?_))
 .exact AE <| AC <| AB <| AH <| rg AA <| rn 4 Z <| bq ae fun am t af => sx Z (Ab t Z Z Z <| rn 3 Z <| bq af fun av u ag => sx Z (BW (enc := Fo) (l := d.2) (m := [am.name]) u (fun _ => ⟨Z, Z⟩) Z Z Z Z Z Z <| rl Z <| Ad <| AC <| rg AA <| rl Z <| Aq ag (wf hA (gi 3 [(3, 5)]) Z Z Z)))
 refine AT <| AZ <| BG ah fun an ai => An <| AC <| rs AA <| rl Z <| AF ?_
 cases ai
 exact er (VE Z (.cons (.one (.own (enc := Fo) b.2 Z Z)) (.cons (.one (.own (enc := Fo) c.2 Z Z)) (.cons (.one (.own (enc := Fo) d.2 Z Z)) .nil)))) Le.rfl
noncomputable def Cy (a : Int) (c : Int) (d : Int) : Option Bool :=
 ((bif decide (c <= a) then some (decide (a <= d)) else some false : Option (Bool))).bind fun (b : Bool) => some b
theorem Gp (b : Int) (c : Int) (d : Int) (r : Bool) (h : Cy b c d = some r) : Aw Tryz.prog 139 [.int .i64 b, .int .i64 c, .int .i64 d] (· = .bool r) := by
 refine fn AA Tryz.func139 Z Z 15 Z [.tmp 6] Z [(0, .p (.int .i64 b)), (1, .p (.int .i64 c)), (2, .p (.int .i64 d))] Z Z fun A hA => ?_
 unfold Cy at h
 refine rs AA <| rl Z <| jb (fun a : Bool => ⟨15, [(6, lb a)], [], 0⟩) h (fun a e => ?_) (fun a i => ?_)
 .refine rg AA <| rn 4 Z <| gs 10 e Z Z Z (fun f => ?_) (fun g => ?_)
  .exact rl Z <| AL f (wf hA [] Z Z Z)
  exact rl Z <| AL g (wf hA [] Z Z Z)
 refine AF ?_
 have hr := Option.some.inj i; subst hr
 exact er Z Le.rfl
noncomputable def Df (c : ByteArray) (b : Int) : Option (Int ⊕ Bool) :=
 bif decide (b < (c.size : Int)) then (LD c b).bind fun a => ((bif decide (97 <= (a.toNat : Int)) then bif decide ((a.toNat : Int) <= 122) then some true else bif decide (65 <= (a.toNat : Int)) then some (decide ((a.toNat : Int) <= 90)) else some false else bif decide (65 <= (a.toNat : Int)) then some (decide ((a.toNat : Int) <= 90)) else some false : Option (Bool))).bind fun (d : Bool) => ((bif (!d) then bif (b == 0) then some true else bif decide ((a.toNat : Int) < 48) then some true else some (decide (57 < (a.toNat : Int))) else some false : Option (Bool))).bind fun (e : Bool) => bif e then some (.inr false) else some (.inl (AP (b + 1))) else (((bif decide (1 <= (c.size : Int)) then some (decide ((c.size : Int) <= 8)) else some false : Option (Bool))).bind fun (f : Bool) => some f).map .inr
noncomputable def Co (a : ByteArray) : Option Bool :=
 AO (Df a) 0
theorem Kv (b : ByteArray) (r : Bool) (h : Co b = some r) : Aw Tryz.prog 61 [.str b] (· = .bool r) := by
 refine fn AA Tryz.func61 Z Z 51 Z [.tmp 2] Z [(0, .p (.str b))] Z Z fun A hA => ?_
 unfold Co at h
 refine rs AA <| rl Z <| AB <| rs AA <| rl Z <| AH ?_
 apply lp (a := r) (fun c : Int => ⟨51, [(0, .p (.str b)), (3, li c)], [], 0⟩) h
 . exact wf hA [] Z Z Z
 intro c ar g
 unfold Df at g
 refine AB <| rs AA <| rl Z <| cd Z g (fun j => ?_) (fun ai => ?_)
 .refine AE <| AC <| AB <| AH <| rs AA <| rn 2 Z <| bq j fun ao i k => sx Z (Pk i Z Z Z <| rl Z <| jb (fun d : Bool => ⟨51, [(0, .p (.str b)), (3, li c), (4, .p (.int .u8 (ao.toNat : Int))), (5, lb d)], [], 0⟩) k (fun d l => ?_) (fun d w => ?_))
  .refine rg AA <| rn 3 Z <| gs 17 l Z Z Z (fun m => ?_) (fun t => ?_)
   .refine rn 4 Z <| gs 21 m Z Z Z (fun n => ?_) (fun o => ?_)
    .exact rl Z <| AL n (wf hA [] Z Z Z)
    refine rn 3 Z <| gs 24 o Z Z Z (fun q => ?_) (fun s => ?_)
    .exact rl Z <| AL q (wf hA [] Z Z Z)
    exact rl Z <| AL s (wf hA [] Z Z Z)
   refine rn 7 Z <| gs 24 t Z Z Z (fun u => ?_) (fun v => ?_)
   .exact rl Z <| AL u (wf hA [] Z Z Z)
   exact rl Z <| AL v (wf hA [] Z Z Z)
  refine jb (fun e : Bool => ⟨51, [(0, .p (.str b)), (3, li c), (42, lb e)], [], 0⟩) w (fun e x => ?_) (fun e ae => ?_)
  .refine rg AA <| rn 3 Z <| gs 31 x Z Z Z (fun y => ?_) (fun ad => ?_)
   .refine rn 3 Z <| gs 34 y Z Z Z (fun z => ?_) (fun aa => ?_)
    .exact rl Z <| AL z (wf hA [] Z Z Z)
    refine rn 4 Z <| gs 38 aa Z Z Z (fun ab => ?_) (fun ac => ?_)
    .exact rl Z <| AL ab (wf hA [] Z Z Z)
    exact rl Z <| AL ac (wf hA [] Z Z Z)
   exact rl Z <| AL ad (wf hA [] Z Z Z)
  refine cd Z ae (fun af => ?_) (fun ah => ?_)
  .refine rs AA <| rl Z <| AF <| AQ <| AG <| A3 af fun ap ag => AQ <| AG ?_
   cases ag
   exact er Z Le.rfl
  exact AE <| Ad <| AC <| rg AA <| rl Z <| Aq ah (wf hA [] Z Z Z)
 refine AT <| AZ <| CF ai fun aq aj => An <| AC <| jb (fun f : Bool => ⟨51, [(2, lb f)], [], 0⟩) aj (fun f ak => ?_) (fun f an => ?_)
 .refine rg AA <| rn 4 Z <| gs 46 ak Z Z Z (fun al => ?_) (fun am => ?_)
  .exact rl Z <| AL al (wf hA [] Z Z Z)
  exact rl Z <| AL am (wf hA [] Z Z Z)
 refine AF ?_
 have hr := Option.some.inj an; subst hr
 exact er Z Le.rfl
noncomputable def I4 (a : Int) : Option Int :=
 bif (a == 1) then some 2 else bif (a == 2) then some 3 else bif (a == 3) then some 4 else bif (a == 4) then some 1 else some 0
theorem Tn (a : Int) (r : Int) (h : I4 a = some r) : Aw Tryz.prog 94 [.int .i64 a] (· = .int .i64 r) := by
 refine fn AA Tryz.func94 Z Z 12 Z [.tmp 2] Z [(0, .p (.int .i64 a))] Z Z fun A hA => ?_
 unfold I4 at h
 refine rs AA <| rl Z <| AB <| rs AA <| rl Z <| AH <| rs AA <| rl Z <| cd Z h (fun j => ?_) (fun b => ?_)
 .refine rs AA <| rl Z <| AF <| AQ <| AG ?_
  cases j
  exact er Z Le.rfl
 refine rs AA <| rl Z <| cd Z b (fun c => ?_) (fun d => ?_)
 .refine rs AA <| rl Z <| AF <| AQ <| AG ?_
  cases c
  exact er Z Le.rfl
 refine rs AA <| rl Z <| cd Z d (fun e => ?_) (fun f => ?_)
 .refine rs AA <| rl Z <| AF <| AQ <| AG ?_
  cases e
  exact er Z Le.rfl
 refine rs AA <| rl Z <| cd Z f (fun g => ?_) (fun i => ?_)
 .refine rs AA <| rl Z <| AF <| AQ <| AG ?_
  cases g
  exact er Z Le.rfl
 refine AE <| Ad <| AC <| rs AA <| rl Z <| AF ?_
 cases i
 exact er Z Le.rfl
noncomputable def HP (b : AK) (a : Int) : Option (Int ⊕ Bool) :=
 bif decide (a < (b.lines.length : Int)) then (AY b.lines a).bind fun c => (Co c.name).bind fun d => bif (!d) then some (.inr false) else some (.inl (AP (a + 1))) else some (.inr true)
noncomputable def HQ (b : AK) (a : Int) : Option (Int ⊕ Bool) :=
 bif decide (a < (b.signals.length : Int)) then (AY b.signals a).bind fun c => (Co c.name).bind fun d => bif (!d) then some (.inr false) else some (.inl (AP (a + 1))) else (AO (HP b) 0).map .inr
noncomputable def HR (c : AK) (b : Int) : Option (Int ⊕ Bool) :=
 bif decide (b < (c.elems.length : Int)) then (AY c.elems b).bind fun a => (((Co a.name).bind fun e => bif (!e) then some true else (I4 a.kind).bind fun f => bif (f == 0) then some true else bif (a.kind == 4) then bif (a.length != 0) then some true else bif (a.kind != 4) then (Cy a.length 1 4000).bind fun g => some (!g) else some false else bif (a.kind != 4) then (Cy a.length 1 4000).bind fun h => some (!h) else some false : Option (Bool))).bind fun (d : Bool) => bif d then some (.inr false) else some (.inl (AP (b + 1))) else (AO (HQ c) 0).map .inr
noncomputable def Kw (a : AK) : Option Bool :=
 (((Cy a.top 1 60).bind fun c => bif (!c) then some true else (Cy a.brake 1 10).bind fun d => bif (!d) then some true else (Cy a.margin 1 4000).bind fun e => bif (!e) then some true else (Cy a.throw 1 20).bind fun f => bif (!f) then some true else some ((a.elems.length : Int) == 0) : Option (Bool))).bind fun (b : Bool) => bif b then some false else AO (HR a) 0
theorem ZB (b : AK) (r : Bool) (h : Kw b = some r) : Aw Tryz.prog 96 [.agg (AN b)] (· = .bool r) := by
 refine fn AA Tryz.func96 Z Z 108 Z [.tmp 2] Z [(0, .p (.agg (AN b)))] Z Z fun A hA => ?_
 unfold Kw at h
 refine rs AA <| rl Z <| AB <| jb (fun d : Bool => ⟨108, [(1, .lpb 0 0), (34, lb d)], [(0, bx (AN b))], 1⟩) h (fun d aj => ?_) (fun d bo => ?_)
 .refine rg AA <| rn 2 Z <| bq aj fun cc q ak => sx Z (AM (Gp _ _ _ _ q) (.inl Z) Z Z Z <| rn 2 Z <| gs 11 ak Z Z Z (fun al => ?_) (fun am => ?_))
  .exact rl Z <| AL al (wf hA [(0, 0)] Z Z Z)
  refine rn 2 Z <| bq am fun ce s ao => sx Z (AM (Gp _ _ _ _ s) (.inl Z) Z Z Z <| rn 3 Z <| gs 17 ao Z Z Z (fun ap => ?_) (fun aq => ?_))
  .exact rl Z <| AL ap (wf hA [(0, 0)] Z Z Z)
  refine rn 2 Z <| bq aq fun cf t ar => sx Z (AM (Gp _ _ _ _ t) (.inl Z) Z Z Z <| rn 3 Z <| gs 23 ar Z Z Z (fun av => ?_) (fun aw => ?_))
  .exact rl Z <| AL av (wf hA [(0, 0)] Z Z Z)
  refine rn 2 Z <| bq aw fun cj x bc => sx Z (AM (Gp _ _ _ _ x) (.inl Z) Z Z Z <| rn 3 Z <| gs 29 bc Z Z Z (fun bl => ?_) (fun bn => ?_))
  .exact rl Z <| AL bl (wf hA [(0, 0)] Z Z Z)
  exact rn 2 Z <| sx Z (Ae Z Z <| rl Z <| AL bn (wf hA [(0, 0)] Z Z Z))
 refine cd Z bo (fun bp => ?_) (fun br => ?_)
 .refine rs AA <| rl Z <| AF <| AG ?_
  cases bp
  exact er Z Le.rfl
 refine AE <| AC <| AB <| rs AA <| rl Z <| AH ?_
 apply lp (a := r) (fun c : Int => ⟨108, [(1, .lpb 0 0), (3, li c)], [(0, bx (AN b))], 1⟩) br
 . exact wf hA [(0, 0)] Z Z Z
 intro c b7 f
 unfold HR at f
 refine AB <| rs AA <| rn 3 Z <| sx Z (Ae Z Z <| rl Z <| cd Z f (fun an => ?_) (fun bk => ?_))
 .refine AE <| AC <| AB <| AH <| rs AA <| rn 3 Z <| bq an fun cg u au => sx Z (Ab u Z Z Z <| rl Z <| jb (fun e : Bool => ⟨108, [(1, .lpb 0 0), (3, li c), (77, lb e)], [(0, bx (AN b))], 1⟩) au (fun e ax => ?_) (fun e bg => ?_))
  .refine rg AA <| rn 2 Z <| bq ax fun ch v ay => sx Z (AM (Kv _ _ v) (.inl Z) Z Z Z <| rn 2 Z <| gs 51 ay Z Z Z (fun az => ?_) (fun a0 => ?_))
   .exact rl Z <| AL az (wf hA [(0, 0)] Z Z Z)
   refine rn 2 Z <| bq a0 fun ci w a1 => sx Z (AM (Tn _ _ w) (.inl Z) Z Z Z <| rn 3 Z <| gs 57 a1 Z Z Z (fun a2 => ?_) (fun a3 => ?_))
   .exact rl Z <| AL a2 (wf hA [(0, 0)] Z Z Z)
   refine rn 4 Z <| gs 61 a3 Z Z Z (fun a4 => ?_) (fun ba => ?_)
   .refine rn 6 Z <| gs 67 a4 Z Z Z (fun a5 => ?_) (fun a6 => ?_)
    .exact rl Z <| AL a5 (wf hA [(0, 0)] Z Z Z)
    refine rn 4 Z <| gs 71 a6 Z Z Z (fun a7 => ?_) (fun a9 => ?_)
    .exact rn 2 Z <| bq a7 fun ck y a8 => sx Z (AM (Gp _ _ _ _ y) (.inl Z) Z Z Z <| rl Z <| AL a8 (wf hA [(0, 0)] Z Z Z))
    exact rl Z <| AL a9 (wf hA [(0, 0)] Z Z Z)
   refine rn 10 Z <| gs 71 ba Z Z Z (fun bb => ?_) (fun bf => ?_)
   .exact rn 2 Z <| bq bb fun cl z be => sx Z (AM (Gp _ _ _ _ z) (.inl Z) Z Z Z <| rl Z <| AL be (wf hA [(0, 0)] Z Z Z))
   exact rl Z <| AL bf (wf hA [(0, 0)] Z Z Z)
  refine cd Z bg (fun bh => ?_) (fun bj => ?_)
  .refine rs AA <| rl Z <| AF <| AQ <| AG <| A3 bh fun b5 bi => AQ <| AG ?_
   cases bi
   exact er Z Le.rfl
  exact AE <| Ad <| AC <| rg AA <| rl Z <| Aq bj (wf hA [(0, 0)] Z Z Z)
 refine AT <| AZ <| CF bk fun l bm => An <| AC <| AB <| rs AA <| rl Z <| AH ?_
 apply lp (a := l) (fun j : Int => ⟨108, [(1, .lpb 0 0), (5, li j)], [(0, bx (AN b))], 1⟩) bm
 . exact wf hA [(0, 0)] Z Z Z
 intro j b8 g
 unfold HQ at g
 refine AB <| rs AA <| rn 3 Z <| sx Z (Ae Z Z <| rl Z <| cd Z g (fun bs => ?_) (fun b0 => ?_))
 .refine AE <| AC <| AB <| AH <| rs AA <| rn 3 Z <| bq bs fun cm aa bt => sx Z (Ab aa Z Z Z <| rn 2 Z <| bq bt fun cn ab bu => sx Z (AM (Kv _ _ ab) (.inl Z) Z Z Z <| rl Z <| cd Z bu (fun bv => ?_) (fun bz => ?_)))
  .refine rs AA <| rl Z <| AF <| AQ <| AG <| A3 bv fun b6 bw => AQ <| AG ?_
   cases bw
   exact er Z Le.rfl
  exact AE <| Ad <| AC <| rg AA <| rl Z <| Aq bz (wf hA [(0, 0)] Z Z Z)
 refine AT <| AZ <| CF b0 fun m b1 => An <| AC <| AB <| rs AA <| rl Z <| AH ?_
 apply lp (a := m) (fun k : Int => ⟨108, [(1, .lpb 0 0), (6, li k)], [(0, bx (AN b))], 1⟩) b1
 . exact wf hA [(0, 0)] Z Z Z
 intro k b9 i
 unfold HP at i
 refine AB <| rs AA <| rn 3 Z <| sx Z (Ae Z Z <| rl Z <| cd Z i (fun b2 => ?_) (fun ah => ?_))
 .refine AE <| AC <| AB <| AH <| rs AA <| rn 3 Z <| bq b2 fun ca n ac => sx Z (Ab n Z Z Z <| rn 2 Z <| bq ac fun cb o ad => sx Z (AM (Kv _ _ o) (.inl Z) Z Z Z <| rl Z <| cd Z ad (fun ae => ?_) (fun ag => ?_)))
  .refine rs AA <| rl Z <| AF <| AQ <| AG <| A3 ae fun b3 af => AQ <| AG ?_
   cases af
   exact er Z Le.rfl
  exact AE <| Ad <| AC <| rg AA <| rl Z <| Aq ag (wf hA [(0, 0)] Z Z Z)
 refine AT <| AZ <| BG ah fun b4 ai => An <| AC <| rs AA <| rl Z <| AF ?_
 cases ai
 exact er Z Le.rfl
noncomputable def Ga (c : (List ByteArray)) (a : Int) (b : Int) : Option (Int ⊕ (Int ⊕ Bool)) :=
 bif decide (b < a) then (AY c a).bind fun d => (AY c b).bind fun e => bif (d.toList == e.toList) then some (.inr (.inr true)) else some (.inl (AP (b + 1))) else some (.inr (.inl (AP (a + 1))))
noncomputable def Ip (b : (List ByteArray)) (a : Int) : Option (Int ⊕ Bool) :=
 bif decide (a < (b.length : Int)) then AO (Ga b a) 0 else some (.inr false)
noncomputable def GH (a : (List ByteArray)) : Option Bool :=
 AO (Ip a) 0
theorem Oh (b : (List ByteArray)) (r : Bool) (h : GH b = some r) : Aw Tryz.prog 97 [.slice 1 (b.map Fo)] (· = .bool r) := by
 refine fn AA Tryz.func97 Z Z 25 Z [.tmp 2] Z [(0, .p (.slice 1 (b.map Fo)))] Z Z fun A hA => ?_
 unfold GH at h
 refine rs AA <| rl Z <| AB <| rs AA <| rl Z <| AH ?_
 apply lp (a := r) (fun c : Int => ⟨25, [(0, ls 1 Fo b), (3, li c)], [], 0⟩) h
 . exact wf hA [] Z Z Z
 intro c g d
 unfold Ip at d
 refine AB <| rs AA <| rn 2 Z <| sx Z (Ae Z Z <| rl Z <| cd Z d (fun k => ?_) (fun w => ?_))
 .refine AE <| AC <| AB <| AH <| rs AA <| rl Z <| AH ?_
  apply lp (a := g) (fun f : Int => ⟨25, [(0, ls 1 Fo b), (3, li c), (4, li f)], [], 0⟩) k
  . exact wf hA [] Z Z Z
  intro f ac e
  unfold Ga at e
  refine AB <| rs AA <| rl Z <| cd Z e (fun l => ?_) (fun u => ?_)
  .refine AE <| AC <| AB <| AH <| AB ?_
   refine B0 AA mixed [0, 1, 2, 3, 4, 5, 6, 7, 8] 9 (by kernel_rfl) Z Z Z ?_
   refine Au 2 Z <| bq l fun ad i m => As Z (Al Z (Ab i Z Z Z <| Au 3 Z <| bq m fun ae j n => As Z (Al Z (Ab j Z Z Z <| BK Z <| AC <| cd Z n (fun o => ?_) (fun t => ?_)))))
   .refine rs AA <| rl Z <| AF <| AQ <| AG <| A3 o fun y q => AQ <| AQ <| AG <| A3 q fun z s => AQ <| AG ?_
    cases s
    exact er Z Le.rfl
   exact AE <| Ad <| AC <| rg AA <| rl Z <| Aq t (wf hA [] Z Z Z)
  exact AT <| AZ <| BG u fun aa v => An <| Ad <| AC <| rg AA <| rl Z <| Aq v (wf hA [] Z Z Z)
 refine AT <| AZ <| BG w fun ab x => An <| AC <| rs AA <| rl Z <| AF ?_
 cases x
 exact er Z Le.rfl
end Go.E
/- Plain functions, and walks in step with them. Written by a program (gen.py). No condition. -/
set_option maxRecDepth 100000
set_option maxHeartbeats 1000000
namespace Go.E
open Go Go.RowKit Go.Proofs
noncomputable def KA (b : AK) (a : AI) : Option Bool :=
 ((bif decide (0 <= a.elem) then bif decide (a.elem < (b.elems.length : Int)) then bif decide (0 <= a.fin) then (AY b.elems a.elem).bind fun d => (I4 d.kind).bind fun e => some (decide (a.fin < e)) else some false else some false else some false : Option (Bool))).bind fun (c : Bool) => some c
theorem VP (b : AK) (c : AI) (r : Bool) (h : KA b c = some r) : Aw Tryz.prog 140 [.agg (AN b), .agg (AW c)] (· = .bool r) := by
 refine fn AA Tryz.func140 Z Z 34 Z [.tmp 4] Z [(0, .p (.agg (AN b))), (1, .p (.agg (AW c)))] Z Z fun A hA => ?_
 unfold KA at h
 refine rs AA <| rl Z <| jb (fun a : Bool => ⟨34, [(4, lb a)], [], 0⟩) h (fun a f => ?_) (fun a q => ?_)
 .refine B0 AA mixed [0, 1, 2, 3, 4, 5, 6, 7, 8, 9, 10, 11, 12, 13, 14, 15, 16, 17, 18, 19, 20, 21, 22, 23, 24, 25, 26, 27, 28, 29] 30 (by kernel_rfl) Z Z Z ?_
  refine Au 4 Z <| Ec 8 f Z Z Z (fun g => ?_) (fun o => ?_)
  .refine Au 4 Z <| As Z (Kr Z Z <| Au 3 Z <| Ec 16 g Z Z Z (fun i => ?_) (fun n => ?_))
   .refine Au 5 Z <| Ec 21 i Z Z Z (fun j => ?_) (fun m => ?_)
    .exact Au 6 Z <| bq j fun s d k => As Z (Al Z (Ab d Z Z Z <| Au 2 Z <| bq k fun t e l => As Z (A0 (Tn _ _ e) (.inl Z) Z Z Z <| BK Z <| AL l (wf hA [] Z Z Z))))
    exact BK Z <| AL m (wf hA [] Z Z Z)
   exact BK Z <| AL n (wf hA [] Z Z Z)
  exact BK Z <| AL o (wf hA [] Z Z Z)
 refine AF ?_
 have hr := Option.some.inj q; subst hr
 exact er Z Le.rfl
noncomputable def Je (d : AK) (e : AI) (c : Int) : Option (Int ⊕ (AI × Bool)) :=
 bif decide (c < (d.joins.length : Int)) then (AY d.joins c).bind fun f => bif (f.a == e) then (AY d.joins c).bind fun g => some (.inr (g.b, true)) else (AY d.joins c).bind fun h => bif (h.b == e) then (AY d.joins c).bind fun i => some (.inr (i.a, true)) else some (.inl (AP (c + 1))) else some (.inr ((⟨0, 0⟩ : AI), false))
noncomputable def EH (a : AK) (b : AI) : Option (AI × Bool) :=
 AO (Je a b) 0
theorem I8 (d : AK) (c : AI) (r : (AI × Bool)) (h : EH d c = some r) : Aw Tryz.prog 71 [.agg (AN d), .agg (AW c)] (· = .tup [.agg (AW r.1), .bool r.2]) := by
 refine fn AA Tryz.func71 Z Z 43 Z [.cell 4 40, .tmp 5] Z [(0, .p (.agg (AN d))), (1, .p (.agg (AW c)))] Z Z fun A hA => ?_
 unfold EH at h
 refine rs AA <| rl Z <| AB <| rs AA <| rl Z <| AH ?_
 apply lp (a := r) (fun f : Int => ⟨43, [(2, .lpb 0 0), (3, .lpb 1 0), (4, .lpb 2 0), (6, li f)], [(0, bx (AN d)), (1, .box [li c.elem, li c.fin]), (2, .box [li 0, li 0])], 3⟩) h
 . exact wf hA (gi 3 []) Z Z Z
 intro f af e
 unfold Je at e
 refine AB <| rs AA <| rn 3 Z <| sx Z (Ae Z Z <| rl Z <| cd Z e (fun l => ?_) (fun y => ?_))
 .refine AE <| AC <| AB <| AH <| AB <| AB ?_
  refine B0 AA mixed [0, 1, 2, 3, 4, 5, 6, 7] 8 (by kernel_rfl) Z Z Z ?_
  refine Au 3 Z <| bq l fun aa g m => As Z (Al Z (Ab g Z Z Z <| Au 3 Z <| As Z (Pn (KB aa.a c) Z Z Z Z Z <| BK Z <| AC <| cd Z m (fun n => ?_) (fun s => ?_))))
  .refine rs AA <| rn 3 Z <| bq n fun ag i o => sx Z (Ab i Z Z Z <| rl Z <| AF <| AG <| AQ <| AG <| A3 o fun ac q => AQ <| AG ?_)
   cases q
   exact er Z Le.rfl
  refine AE <| AC <| AB ?_
  refine B0 AA mixed [0, 1, 2, 3, 4, 5, 6, 7] 8 (by kernel_rfl) Z Z Z ?_
  refine Au 3 Z <| bq s fun ab j t => As Z (Al Z (Ab j Z Z Z <| Au 3 Z <| As Z (Pn (KB ab.b c) Z Z Z Z Z <| BK Z <| AC <| cd Z t (fun u => ?_) (fun x => ?_))))
  .refine rs AA <| rn 3 Z <| bq u fun ah k v => sx Z (Ab k Z Z Z <| rl Z <| AF <| AQ <| AG <| A3 v fun ad w => AQ <| AG ?_)
   cases w
   exact er Z Le.rfl
  exact AE <| Ad <| AC <| rg AA <| rl Z <| Aq x (wf hA (gi 3 []) Z Z Z)
 refine AT <| AZ <| BG y fun ae z => An <| AC <| rs AA <| rl Z <| AF ?_
 cases z
 exact er Z Le.rfl
noncomputable def EG (b : AK) (a : Int) : Option Int :=
 ((bif decide (a < 0) then some true else some (decide ((b.elems.length : Int) <= a)) : Option (Bool))).bind fun (c : Bool) => bif c then some 0 else (AY b.elems a).bind fun d => some d.kind
theorem I6 (a : AK) (b : Int) (r : Int) (h : EG a b = some r) : Aw Tryz.prog 60 [.agg (AN a), .int .i64 b] (· = .int .i64 r) := by
 refine fn AA Tryz.func60 Z Z 20 Z [.tmp 4] Z [(0, .p (.agg (AN a))), (1, .p (.int .i64 b))] Z Z fun A hA => ?_
 unfold EG at h
 refine rs AA <| rl Z <| AB <| jb (fun c : Bool => ⟨20, [(1, li b), (2, .lpb 0 0), (13, lb c)], [(0, bx (AN a))], 1⟩) h (fun c e => ?_) (fun c i => ?_)
 .refine rg AA <| rn 3 Z <| gs 7 e Z Z Z (fun f => ?_) (fun g => ?_)
  .exact rl Z <| AL f (wf hA [(0, 0)] Z Z Z)
  exact rn 3 Z <| sx Z (Ae Z Z <| rl Z <| AL g (wf hA [(0, 0)] Z Z Z))
 refine cd Z i (fun j => ?_) (fun k => ?_)
 .refine rs AA <| rl Z <| AF <| AG ?_
  cases j
  exact er Z Le.rfl
 refine AE <| AC <| rs AA <| rn 3 Z <| bq k fun m d l => sx Z (Ab d Z Z Z <| rl Z <| AF ?_)
 cases l
 exact er Z Le.rfl
noncomputable def Fs (c : (Int × (List AI))) (b : Int) (a : Int) : Option (Int ⊕ (Int ⊕ Bool)) :=
 bif decide (a < b) then (AY c.2 a).bind fun d => (AY c.2 b).bind fun e => bif (d == e) then some (.inr (.inr false)) else some (.inl (AP (a + 1))) else some (.inr (.inl (AP (b + 1))))
noncomputable def Fu (b : AK) (a : Int) : Option (Int ⊕ Bool) :=
 bif decide (a < (b.elems.length : Int)) then Eb (((AY b.elems a).bind fun e => bif (e.kind == 4) then (EH b (⟨a, 0⟩ : AI)).bind fun c => ((bif (!c.2) then some true else (EG b c.1.elem).bind fun f => some (f == 4) : Option (Bool))).bind fun (d : Bool) => bif d then some (.inr (.inr false)) else some (.inl ()) else some (.inl ()) : Option (Unit ⊕ (Int ⊕ Bool)))) fun (g : Unit) => some (.inl (AP (a + 1))) else some (.inr true)
noncomputable def Fv (c : AK) (a : (Int × (List AI))) (b : Int) : Option (Int ⊕ Bool) :=
 bif decide (b < (a.2.length : Int)) then (AY a.2 b).bind fun d => (KA c d).bind fun e => bif (!e) then some (.inr false) else AO (Fs a b) 0 else (AO (Fu c) 0).map .inr
noncomputable def H0 (d : AK) (c : Int × (List AI)) : Option ((Int × (List AI)) ⊕ Bool) :=
 bif decide (c.1 < (d.joins.length : Int)) then (AY d.joins c.1).bind fun e => (AY d.joins c.1).bind fun f => (Bs c.2 [e.a, f.b]).bind fun g => some (.inl (AP (c.1 + 1), g)) else (AO (Fv d c) 0).map .inr
noncomputable def Ic (a : AK) : Option Bool :=
 AO (H0 a) (0, ([] : List AI))
theorem Wa (d : AK) (r : Bool) (h : Ic d = some r) : Aw Tryz.prog 98 [.agg (AN d)] (· = .bool r) := by
 refine fn AA Tryz.func98 Z Z 89 Z [.tmp 2] Z [(0, .p (.agg (AN d)))] Z Z fun A hA => ?_
 unfold Ic at h
 refine rs AA <| rl Z <| rs AA <| rl Z <| AB <| rs AA <| rl Z <| AH ?_
 apply lp (a := r) (fun c : (Int × (List AI)) => ⟨89, [(1, .lpb 0 0), (3, .lsl 1 2 0 c.2.length), (4, li c.1)], [(0, bx (AN d)), (1, .row 40 2 (c.2.map AW))], 2⟩) h
 . exact A8.trans (CS 3 40 2 Z) (wf hA [(0, 0), (1, 1)] Z Z Z)
 intro c b2 o
 unfold H0 at o
 refine AB <| rs AA <| rn 3 Z <| sx Z (Ae Z Z <| rl Z <| cd Z o (fun ag => ?_) (fun aw => ?_))
 .refine AE <| AC <| AB <| AH ?_
  refine B0 AA mixed [0, 1, 2, 3, 4, 5, 6, 7, 8, 9, 10, 11, 12, 13, 14, 15] 16 (by kernel_rfl) Z Z Z ?_
  exact Au 4 Z <| bq ag fun bo z am => As Z (Al Z (Ab z Z Z Z <| Au 5 Z <| bq am fun bp aa an => As Z (Al Z (Ab aa Z Z Z <| Au 3 Z <| bq an fun b7 ab ap => As Z (I2 Z (BW (enc := AW) (l := c.2) (m := [bo.a, bp.b]) ab (fun _ => ⟨Z, Z⟩) Z Z Z Z Z Z <| BK Z <| Ad <| AC <| rg AA <| rl Z <| Aq ap (wf hA [(0, 0), (1, 16)] Z Z Z)))))))
 refine AT <| AZ <| CF aw fun v a3 => An <| AC <| AB <| rs AA <| rl Z <| AH ?_
 apply lp (a := v) (fun f : Int => ⟨89, [(1, .lpb 0 0), (3, .lsl 1 2 0 c.2.length), (5, li f)], [(0, bx (AN d)), (1, .row 40 2 (c.2.map AW))], 2⟩) a3
 . exact wf hA [(0, 0), (1, 1)] Z Z Z
 intro f w n
 unfold Fv at n
 refine AB <| rs AA <| rl Z <| cd Z n (fun af => ?_) (fun a1 => ?_)
 .refine AE <| AC <| AB <| AH <| AB <| AB ?_
  refine B0 AA mixed [0, 1, 2, 3, 4, 5, 6] 7 (by kernel_rfl) Z Z Z ?_
  refine Au 3 Z <| bq af fun b5 i ah => As Z (Al Z (B3 i Z Z Z Z <| As Z (HN Z (DJ i Z Z Z <| bq ah fun b6 y ai => As Z (A0 (VP _ _ _ y) (.inl Z) Z Z Z <| BK Z <| AC <| cd Z ai (fun aj => ?_) (fun al => ?_))))))
  .refine rs AA <| rl Z <| AF <| AG <| AQ <| AG <| A3 aj fun bt ak => AQ <| AG ?_
   cases ak
   exact er Z Le.rfl
  refine AE <| AC <| rs AA <| rl Z <| AH ?_
  apply lp (a := w) (fun t : Int => ⟨89, [(1, .lpb 0 0), (3, .lsl 1 2 0 c.2.length), (5, li f), (6, li t)], [(0, bx (AN d)), (1, .row 40 2 (c.2.map AW))], 2⟩) al
  . exact wf hA [(0, 0), (1, 1)] Z Z Z
  intro t b3 q
  unfold Fs at q
  refine AB <| rs AA <| rl Z <| cd Z q (fun ao => ?_) (fun az => ?_)
  .refine AE <| AC <| AB <| AH <| AB ?_
   refine B0 AA mixed [0, 1, 2, 3, 4, 5, 6, 7, 8] 9 (by kernel_rfl) Z Z Z ?_
   refine Au 2 Z <| bq ao fun br j aq => As Z (Al Z (B3 j Z Z Z Z <| As Z (HN Z (DJ j Z Z Z <| Au 2 Z <| bq aq fun bs k ar => As Z (Al Z (B3 k Z Z Z Z <| As Z (HN Z (DJ k Z Z Z <| As Z (Pn (KB br bs) Z Z Z Z Z <| BK Z <| AC <| cd Z ar (fun au => ?_) (fun ay => ?_))))))))))
   .refine rs AA <| rl Z <| AF <| AQ <| AG <| A3 au fun bu av => AQ <| AQ <| AG <| A3 av fun bv ax => AQ <| AG ?_
    cases ax
    exact er Z Le.rfl
   exact AE <| Ad <| AC <| rg AA <| rl Z <| Aq ay (wf hA [(0, 0), (1, 1)] Z Z Z)
  exact AT <| AZ <| BG az fun bw a0 => An <| Ad <| AC <| rg AA <| rl Z <| Aq a0 (wf hA [(0, 0), (1, 1)] Z Z Z)
 refine AT <| AZ <| CF a1 fun u a2 => An <| AC <| AB <| rs AA <| rl Z <| AH ?_
 apply lp (a := u) (fun e : Int => ⟨89, [(1, .lpb 0 0), (7, li e)], [(0, bx (AN d))], 1⟩) a2
 . exact wf hA [(0, 0)] Z Z Z
 intro e x s
 unfold Fu at s
 refine AB <| rs AA <| rn 3 Z <| sx Z (Ae Z Z <| rl Z <| cd Z s (fun a4 => ?_) (fun bl => ?_))
 .refine AE <| AC ?_
  apply jn (a := x) (fun bn : Unit => ⟨89, [(1, .lpb 0 0), (7, li e)], [(0, bx (AN d))], 1⟩) a4
  .intro b4 a5
   refine AH <| rs AA <| rn 3 Z <| bq a5 fun b8 ac a6 => sx Z (Ab ac Z Z Z <| rl Z <| cd Z a6 (fun a7 => ?_) (fun bj => ?_))
   .refine rs AA <| rn 3 Z <| bq a7 fun b9 ad a8 => sx Z (AM (I8 _ _ _ ad) (.inl Z) Z Z Z <| rl Z <| jb (fun g : Bool => ⟨89, [(1, .lpb 0 0), (7, li e), (88, lb g)], [(0, bx (AN d))], 1⟩) a8 (fun g a9 => ?_) (fun g be => ?_))
    .refine rg AA <| rn 3 Z <| gs 82 a9 Z Z Z (fun ba => ?_) (fun bb => ?_)
     .exact rl Z <| AL ba (wf hA [(0, 0)] Z Z Z)
     exact rn 3 Z <| bq bb fun ca ae bc => sx Z (AM (I6 _ _ _ ae) (.inl Z) Z Z Z <| rl Z <| AL bc (wf hA [(0, 0)] Z Z Z))
    refine cd Z be (fun bf => ?_) (fun bi => ?_)
    .refine rs AA <| rl Z <| AF <| AQ <| A3 bf fun bz bg => A3 bg fun b0 bh => AQ <| AG ?_
     cases bh
     exact er Z Le.rfl
    exact AE <| Ad <| Aq bi (wf hA [(0, 0)] Z Z Z)
   exact AE <| Ad <| Aq bj (wf hA [(0, 0)] Z Z Z)
  intro bn bk
  exact rg AA <| rl Z <| Aq bk (wf hA [(0, 0)] Z Z Z)
 refine AT <| AZ <| BG bl fun b1 bm => An <| AC <| rs AA <| rl Z <| AF ?_
 cases bm
 exact er Z Le.rfl
noncomputable def Is (b : AK) (c : AI) (a : Int) : Option (Int ⊕ Int) :=
 bif decide (a < (b.signals.length : Int)) then (AY b.signals a).bind fun d => bif (d.at_ == c) then some (.inr a) else some (.inl (AP (a + 1))) else some (.inr (-1))
noncomputable def FB (a : AK) (b : AI) : Option Int :=
 AO (Is a b) 0
theorem Ol (c : AK) (b : AI) (r : Int) (h : FB c b = some r) : Aw Tryz.prog 44 [.agg (AN c), .agg (AW b)] (· = .int .i64 r) := by
 refine fn AA Tryz.func44 Z Z 22 Z [.tmp 4] Z [(0, .p (.agg (AN c))), (1, .p (.agg (AW b)))] Z Z fun A hA => ?_
 unfold FB at h
 refine rs AA <| rl Z <| AB <| rs AA <| rl Z <| AH ?_
 apply lp (a := r) (fun e : Int => ⟨22, [(2, .lpb 0 0), (3, .lpb 1 0), (5, li e)], [(0, bx (AN c)), (1, .box [li b.elem, li b.fin])], 2⟩) h
 . exact wf hA [(0, 0), (1, 1)] Z Z Z
 intro e t d
 unfold Is at d
 refine AB <| rs AA <| rn 3 Z <| sx Z (Ae Z Z <| rl Z <| cd Z d (fun n => ?_) (fun l => ?_))
 .refine AE <| AC <| AB <| AH <| AB ?_
  refine B0 AA mixed [0, 1, 2, 3, 4, 5, 6, 7] 8 (by kernel_rfl) Z Z Z ?_
  refine Au 3 Z <| bq n fun o f g => As Z (Al Z (Ab f Z Z Z <| Au 3 Z <| As Z (Pn (KB o.at_ b) Z Z Z Z Z <| BK Z <| AC <| cd Z g (fun i => ?_) (fun k => ?_))))
  .refine rs AA <| rl Z <| AF <| AQ <| AG <| A3 i fun q j => AQ <| AG ?_
   have hr := Option.some.inj j; subst hr
   exact er Z Le.rfl
  exact AE <| Ad <| AC <| rg AA <| rl Z <| Aq k (wf hA [(0, 0), (1, 1)] Z Z Z)
 refine AT <| AZ <| BG l fun s m => An <| AC <| rs AA <| rl Z <| AF ?_
 cases m
 exact er Z Le.rfl
noncomputable def FD (b : AK) (a : Int) : Option (Int ⊕ Bool) :=
 bif decide (a < (b.elems.length : Int)) then (((AY b.elems a).bind fun d => bif (d.kind == 4) then (FB b (⟨a, 0⟩ : AI)).bind fun e => some (decide (e < 0)) else some false : Option (Bool))).bind fun (c : Bool) => bif c then some (.inr false) else some (.inl (AP (a + 1))) else some (.inr true)
noncomputable def HB (a : AK) (b : Int) : Option (Int ⊕ Bool) :=
 bif decide (b < (a.signals.length : Int)) then (AY a.signals b).bind fun c => (EG a c.at_.elem).bind fun d => (((KA a c.at_).bind fun h => bif (!h) then some true else bif (d != 1) then some (d != 4) else some false : Option (Bool))).bind fun (f : Bool) => bif f then some (.inr false) else (EH a c.at_).bind fun e => ((bif (!e.2) then some true else (EG a e.1.elem).bind fun i => bif (i == 4) then some true else (FB a c.at_).bind fun j => some (j != b) : Option (Bool))).bind fun (g : Bool) => bif g then some (.inr false) else some (.inl (AP (b + 1))) else (AO (FD a) 0).map .inr
noncomputable def HY (a : AK) : Option Bool :=
 AO (HB a) 0
theorem VQ (b : AK) (r : Bool) (h : HY b = some r) : Aw Tryz.prog 99 [.agg (AN b)] (· = .bool r) := by
 refine fn AA Tryz.func99 Z Z 81 Z [.tmp 2] Z [(0, .p (.agg (AN b)))] Z Z fun A hA => ?_
 unfold HY at h
 refine rs AA <| rl Z <| AB <| rs AA <| rl Z <| AH ?_
 apply lp (a := r) (fun c : Int => ⟨81, [(1, .lpb 0 0), (3, li c)], [(0, bx (AN b))], 1⟩) h
 . exact wf hA [(0, 0)] Z Z Z
 intro c bh j
 unfold HB at j
 refine AB <| rs AA <| rn 3 Z <| sx Z (Ae Z Z <| rl Z <| cd Z j (fun ai => ?_) (fun a9 => ?_))
 .refine AE <| AC <| AB <| AH <| rs AA <| rn 3 Z <| bq ai fun k o aj => sx Z (Ab o Z Z Z <| rl Z <| rs AA <| rn 3 Z <| bq aj fun bk q ak => sx Z (AM (I6 _ _ _ q) (.inl Z) Z Z Z <| rl Z <| AB <| jb (fun f : Bool => ⟨81, [(1, .lpb 0 0), (3, li c), (4, .lpb 1 0), (37, lb f)], [(0, bx (AN b)), (1, .box [li k.at_.elem, li k.at_.fin])], 2⟩) ak (fun f al => ?_) (fun f ar => ?_)))
  .refine rg AA <| rn 2 Z <| bq al fun bl s am => sx Z (AM (VP _ _ _ s) (.inl Z) Z Z Z <| rn 2 Z <| gs 30 am Z Z Z (fun an => ?_) (fun ao => ?_))
   .exact rl Z <| AL an (wf hA [(0, 0), (1, 1)] Z Z Z)
   refine rn 3 Z <| gs 33 ao Z Z Z (fun ap => ?_) (fun aq => ?_)
   .exact rl Z <| AL ap (wf hA [(0, 0), (1, 1)] Z Z Z)
   exact rl Z <| AL aq (wf hA [(0, 0), (1, 1)] Z Z Z)
  refine cd Z ar (fun au => ?_) (fun aw => ?_)
  .refine rs AA <| rl Z <| AF <| AG <| AQ <| AG <| A3 au fun be av => AQ <| AG ?_
   cases av
   exact er Z Le.rfl
  refine AE <| AC <| rs AA <| rn 2 Z <| bq aw fun bm t ax => sx Z (AM (I8 _ _ _ t) (.inl Z) Z Z Z <| rl Z <| jb (fun g : Bool => ⟨81, [(1, .lpb 0 0), (3, li c), (59, lb g)], [(0, bx (AN b))], 1⟩) ax (fun g ay => ?_) (fun g a5 => ?_))
  .refine rg AA <| rn 3 Z <| gs 46 ay Z Z Z (fun az => ?_) (fun a0 => ?_)
   .exact rl Z <| AL az (wf hA [(0, 0)] Z Z Z)
   refine rn 3 Z <| bq a0 fun bn u a1 => sx Z (AM (I6 _ _ _ u) (.inl Z) Z Z Z <| rn 3 Z <| gs 53 a1 Z Z Z (fun a2 => ?_) (fun a3 => ?_))
   .exact rl Z <| AL a2 (wf hA [(0, 0)] Z Z Z)
   exact rn 2 Z <| bq a3 fun bo v a4 => sx Z (AM (Ol _ _ _ v) (.inl Z) Z Z Z <| rl Z <| AL a4 (wf hA [(0, 0)] Z Z Z))
  refine cd Z a5 (fun a6 => ?_) (fun a8 => ?_)
  .refine rs AA <| rl Z <| AF <| AQ <| AG <| A3 a6 fun bf a7 => AQ <| AG ?_
   cases a7
   exact er Z Le.rfl
  exact AE <| Ad <| AC <| rg AA <| rl Z <| Aq a8 (wf hA [(0, 0)] Z Z Z)
 refine AT <| AZ <| CF a9 fun l ba => An <| AC <| AB <| rs AA <| rl Z <| AH ?_
 apply lp (a := l) (fun d : Int => ⟨81, [(1, .lpb 0 0), (8, li d)], [(0, bx (AN b))], 1⟩) ba
 . exact wf hA [(0, 0)] Z Z Z
 intro d bg i
 unfold FD at i
 refine AB <| rs AA <| rn 3 Z <| sx Z (Ae Z Z <| rl Z <| cd Z i (fun w => ?_) (fun ag => ?_))
 .refine AE <| AC <| AB <| AH <| jb (fun e : Bool => ⟨81, [(1, .lpb 0 0), (8, li d), (80, lb e)], [(0, bx (AN b))], 1⟩) w (fun e x => ?_) (fun e ac => ?_)
  .refine rg AA <| rn 3 Z <| bq x fun bi m y => sx Z (Ab m Z Z Z <| rn 4 Z <| gs 74 y Z Z Z (fun z => ?_) (fun ab => ?_))
   .exact rn 3 Z <| bq z fun bj n aa => sx Z (AM (Ol _ _ _ n) (.inl Z) Z Z Z <| rl Z <| AL aa (wf hA [(0, 0)] Z Z Z))
   exact rl Z <| AL ab (wf hA [(0, 0)] Z Z Z)
  refine cd Z ac (fun ad => ?_) (fun af => ?_)
  .refine rs AA <| rl Z <| AF <| AQ <| AG <| A3 ad fun bb ae => AQ <| AG ?_
   cases ae
   exact er Z Le.rfl
  exact AE <| Ad <| AC <| rg AA <| rl Z <| Aq af (wf hA [(0, 0)] Z Z Z)
 refine AT <| AZ <| BG ag fun bc ah => An <| AC <| rs AA <| rl Z <| AF ?_
 cases ah
 exact er Z Le.rfl
noncomputable def FE (b : (List Int)) (c : Int) (a : Int) : Option (Int ⊕ Bool) :=
 bif decide (a < (b.length : Int)) then (AY b a).bind fun d => bif (d == c) then some (.inr true) else some (.inl (AP (a + 1))) else some (.inr false)
noncomputable def I9 (a : (List Int)) (b : Int) : Option Bool :=
 AO (FE a b) 0
theorem XJ (b : (List Int)) (c : Int) (r : Bool) (h : I9 b c = some r) : Aw Tryz.prog 28 [.slice 1 (b.map Aa), .int .i64 c] (· = .bool r) := by
 refine fn AA Tryz.func28 Z Z 18 Z [.tmp 4] Z [(0, .p (.slice 1 (b.map Aa))), (1, .p (.int .i64 c))] Z Z fun A hA => ?_
 unfold I9 at h
 refine rs AA <| rl Z <| AB <| rs AA <| rl Z <| AH ?_
 apply lp (a := r) (fun e : Int => ⟨18, [(0, ls 1 Aa b), (1, li c), (5, li e)], [], 0⟩) h
 . exact wf hA [] Z Z Z
 intro e s d
 unfold FE at d
 refine AB <| rs AA <| rn 2 Z <| sx Z (Ae Z Z <| rl Z <| cd Z d (fun n => ?_) (fun l => ?_))
 .refine AE <| AC <| AB <| AH <| rs AA <| rn 2 Z <| bq n fun t f g => sx Z (Ab f Z Z Z <| rl Z <| cd Z g (fun i => ?_) (fun k => ?_))
  .refine rs AA <| rl Z <| AF <| AQ <| AG <| A3 i fun o j => AQ <| AG ?_
   cases j
   exact er Z Le.rfl
  exact AE <| Ad <| AC <| rg AA <| rl Z <| Aq k (wf hA [] Z Z Z)
 refine AT <| AZ <| BG l fun q m => An <| AC <| rs AA <| rl Z <| AF ?_
 cases m
 exact er Z Le.rfl
noncomputable def Fw (e : AK) (c : (List Int)) (a : Int × Int × (List Int)) : Option ((Int × Int × (List Int)) ⊕ ((List Int) × Bool)) :=
 bif decide (a.2.1 < (c.length : Int)) then (AY c (AP (a.2.1 - 1))).bind fun f => (EH e (⟨f, a.1⟩ : AI)).bind fun b => ((bif (!b.2) then some true else (AY c a.2.1).bind fun g => some (b.1.elem != g) : Option (Bool))).bind fun (d : Bool) => bif d then some (.inr ([], false)) else (Bs a.2.2 [b.1.fin]).bind fun h => some (.inl (AP (1 - b.1.fin), AP (a.2.1 + 1), h)) else some (.inr (a.2.2, true))
noncomputable def DS (c : AK) (b : (List Int)) (a : Int × Int) : Option ((Int × Int) ⊕ ((List Int) × Bool)) :=
 bif decide (0 <= a.2) then (((AY b 0).bind fun g => (EH c (⟨g, a.2⟩ : AI)).bind fun d => ((bif d.2 then (AY b 1).bind fun h => some (d.1.elem == h) else some false : Option (Bool))).bind fun (f : Bool) => bif f then some a.2 else some a.1 : Option (Int))).bind fun (e : Int) => some (.inl (e, AP (a.2 - 1))) else (bif decide (a.1 < 0) then some ([], false) else AO (Fw c b) (a.1, 1, [AP (1 - a.1)])).map .inr
noncomputable def H2 (c : AK) (a : (List Int)) (b : Int) : Option (Int ⊕ ((List Int) × Bool)) :=
 bif decide (b < (a.length : Int)) then (AY a b).bind fun d => (EG c d).bind fun e => bif (e != 1) then some (.inr ([], false)) else some (.inl (AP (b + 1))) else (bif ((a.length : Int) == 1) then some ([0], true) else AO (DS c a) ((-1), 1)).map .inr
noncomputable def Ie (b : AK) (a : (List Int)) : Option ((List Int) × Bool) :=
 bif ((a.length : Int) == 0) then some ([], false) else AO (H2 b a) 0
theorem Wb (c : AK) (d : (List Int)) (r : ((List Int) × Bool)) (h : Ie c d = some r) : Aw Tryz.prog 141 [.agg (AN c), .slice 1 (d.map Aa)] (· = .tup [.slice 1 (r.1.map Aa), .bool r.2]) := by
 refine fn AA Tryz.func141 Z Z 102 Z [.tmp 4, .tmp 5] Z [(0, .p (.agg (AN c))), (1, .p (.slice 1 (d.map Aa)))] Z Z fun A hA => ?_
 unfold Ie at h
 refine rs AA <| rl Z <| AB <| rs AA <| rn 1 Z <| sx Z (Ae Z Z <| rl Z <| cd Z h (fun an => ?_) (fun ao => ?_))
 .refine rs AA <| rl Z <| AF <| AG ?_
  cases an
  exact er Z (Le.tup' (.cons (Le.nil _) (.cons Le.rfl .nil)))
 refine AE <| AC <| AB <| rs AA <| rl Z <| AH ?_
 apply lp (a := r) (fun q : Int => ⟨102, [(1, ls 1 Aa d), (2, .lpb 0 0), (6, li q)], [(0, bx (AN c))], 1⟩) ao
 . exact wf hA [(0, 0)] Z Z Z
 intro q bp k
 unfold H2 at k
 refine AB <| rs AA <| rn 2 Z <| sx Z (Ae Z Z <| rl Z <| cd Z k (fun ad => ?_) (fun aj => ?_))
 .refine AE <| AC <| AB <| AH <| AB ?_
  refine B0 AA mixed [0, 1, 2, 3, 4, 5, 6] 7 (by kernel_rfl) Z Z Z ?_
  refine Au 3 Z <| bq ad fun bt u ae => As Z (Al Z (Ab u Z Z Z <| Au 1 Z <| bq ae fun bu v af => As Z (A0 (I6 _ _ _ v) (.inl Z) Z Z Z <| BK Z <| AC <| cd Z af (fun ag => ?_) (fun ai => ?_))))
  .refine rs AA <| rl Z <| AF <| AQ <| AG <| A3 ag fun bm ah => AQ <| AG ?_
   cases ah
   exact er Z (Le.tup' (.cons (Le.nil _) (.cons Le.rfl .nil)))
  exact AE <| Ad <| AC <| rg AA <| rl Z <| Aq ai (wf hA [(0, 0)] Z Z Z)
 refine AT <| AZ <| CF aj fun s ak => An <| AC <| AB <| rs AA <| rn 1 Z <| sx Z (Ae Z Z <| rl Z <| cd Z ak (fun al => ?_) (fun am => ?_))
 .refine rs AA <| rl Z <| AF <| AG ?_
  cases al
  exact er (VE Z (.cons (.one (.own (enc := Aa) ([0] : List Int) Z Z)) (.cons (.one (.p _)) .nil))) Le.rfl
 refine AE <| AC <| rs AA <| rl Z <| AB <| rs AA <| rl Z <| AH ?_
 apply lp (a := s) (fun e : (Int × Int) => ⟨102, [(1, ls 1 Aa d), (2, .lpb 0 0), (7, li e.1), (8, li e.2)], [(0, bx (AN c))], 1⟩) am
 . exact wf hA [(0, 0)] Z Z Z
 intro e br n
 unfold DS at n
 refine AB <| rs AA <| rl Z <| cd Z n (fun ap => ?_) (fun a3 => ?_)
 .refine AE <| AC <| jb (fun f : Int => ⟨102, [(1, ls 1 Aa d), (2, .lpb 0 0), (7, li f), (8, li e.2)], [(0, bx (AN c))], 1⟩) ap (fun f aq => ?_) (fun f a2 => ?_)
  .refine AH <| AB ?_
   refine B0 AA mixed [0, 1, 2, 3, 4, 5, 6, 7, 8, 9, 10, 11, 12] 13 (by kernel_rfl) Z Z Z ?_
   refine Au 2 Z <| bq aq fun bv w ar => As Z (Al Z (Ab w Z Z Z <| Au 3 Z <| bq ar fun bw x au => As Z (A0 (I8 _ _ _ x) (.inl Z) Z Z Z <| BK Z <| AC <| jb (fun g : Bool => ⟨102, [(1, ls 1 Aa d), (2, .lpb 0 0), (7, li e.1), (8, li e.2), (57, lb g)], [(0, bx (AN c))], 1⟩) au (fun g av => ?_) (fun g az => ?_))))
   .refine B0 AA mixed [0, 1, 2, 3, 4, 5, 6, 7, 8] 9 (by kernel_rfl) Z Z Z ?_
    refine Au 2 Z <| Ec 50 av Z Z Z (fun aw => ?_) (fun ay => ?_)
    .exact Au 3 Z <| bq aw fun bz y ax => As Z (Al Z (Ab y Z Z Z <| BK Z <| AL ax (wf hA [(0, 0)] Z Z Z)))
    exact BK Z <| AL ay (wf hA [(0, 0)] Z Z Z)
   refine cd Z az (fun a0 => ?_) (fun a1 => ?_)
   .exact rg AA <| rl Z <| Ad <| AL a0 (wf hA [(0, 0)] Z Z Z)
   exact AE <| Ad <| AL a1 (wf hA [(0, 0)] Z Z Z)
  exact rg AA <| rl Z <| Aq a2 (wf hA [(0, 0)] Z Z Z)
 refine AT <| AZ <| CF a3 fun t a4 => An <| AC <| AB <| rs AA <| rl Z <| cd Z a4 (fun a5 => ?_) (fun a6 => ?_)
 .refine rs AA <| rl Z <| AF <| AG ?_
  cases a5
  exact er Z (Le.tup' (.cons (Le.nil _) (.cons Le.rfl .nil)))
 refine AE <| AC <| rs AA <| rl Z <| AB <| rs AA <| rl Z <| AH ?_
 apply lp (a := t) (fun b : (Int × Int × (List Int)) => ⟨102, [(1, ls 1 Aa d), (2, .lpb 0 0), (7, li b.1), (11, .lsl 1 1 0 b.2.2.length), (12, li b.2.1)], [(0, bx (AN c)), (1, .row 3 1 (b.2.2.map Aa))], 2⟩) a6
 . exact wf hA [(0, 0), (1, 1)] Z Z Z
 intro b bs o
 unfold Fw at o
 refine AB <| rs AA <| rn 2 Z <| sx Z (Ae Z Z <| rl Z <| cd Z o (fun a7 => ?_) (fun bk => ?_))
 .refine AE <| AC <| AB <| AH <| AB ?_
  refine B0 AA mixed [0, 1, 2, 3, 4, 5, 6, 7, 8, 9, 10, 11, 12, 13, 14] 15 (by kernel_rfl) Z Z Z ?_
  refine Au 4 Z <| bq a7 fun b0 z a8 => As Z (Al Z (Ab z Z Z Z <| Au 3 Z <| bq a8 fun j aa a9 => As Z (A0 (I8 _ _ _ aa) (.inl Z) Z Z Z <| BK Z <| AC <| AB <| jb (fun i : Bool => ⟨102, [(1, ls 1 Aa d), (2, .lpb 0 0), (11, .lsl 1 1 0 b.2.2.length), (12, li b.2.1), (13, .lpb 2 0), (92, lb i)], [(0, bx (AN c)), (1, .row 3 1 (b.2.2.map Aa)), (2, .box [li j.1.elem, li j.1.fin])], 3⟩) a9 (fun i ba => ?_) (fun i bf => ?_))))
  .refine B0 AA mixed [0, 1, 2, 3, 4, 5, 6, 7, 8, 9, 10] 11 (by kernel_rfl) Z Z Z ?_
   refine Au 3 Z <| Ec 84 ba Z Z Z (fun bb => ?_) (fun bc => ?_)
   .exact BK Z <| AL bb (wf hA [(0, 0), (1, 1), (2, 14)] Z Z Z)
   exact Au 4 Z <| bq bc fun b1 ab be => As Z (Al Z (Ab ab Z Z Z <| BK Z <| AL be (wf hA [(0, 0), (1, 1), (2, 14)] Z Z Z)))
  refine cd Z bf (fun bg => ?_) (fun bi => ?_)
  .refine rs AA <| rl Z <| AF <| AG <| AQ <| AG <| A3 bg fun bn bh => AQ <| AG ?_
   cases bh
   exact er Z (Le.tup' (.cons (Le.nil _) (.cons Le.rfl .nil)))
  exact AE <| AC <| rs AA <| rn 4 Z <| bq bi fun b2 ac bj => sx Z (BW (enc := Aa) (l := b.2.2) (m := [j.1.fin]) ac (fun _ => ⟨Z, Z⟩) Z Z Z Z Z Z <| rl Z <| rg AA <| rl Z <| Ad <| AC <| rg AA <| rl Z <| Aq bj (wf hA [(0, 0), (1, 4)] Z Z Z))
 refine AT <| AZ <| BG bk fun bo bl => An <| AC <| rs AA <| rl Z <| AF ?_
 cases bl
 exact er (VE Z (.cons (.one (.own (enc := Aa) b.2.2 Z Z)) (.cons (.one (.p _)) .nil))) Le.rfl
end Go.E
/- Plain functions, and walks in step with them. Written by a program (gen.py). No condition. -/
set_option maxRecDepth 100000
set_option maxHeartbeats 1000000
namespace Go.E
open Go Go.RowKit Go.Proofs
noncomputable def Gf (d : AK) (c : (Int × (List Int))) (b : CG) (a : Int × (List Int)) : Option ((Int × (List Int)) ⊕ ((Int × (List Int)) ⊕ Bool)) :=
 bif decide (a.1 < (b.elems.length : Int)) then (AY b.elems a.1).bind fun e => (I9 a.2 e).bind fun f => bif f then some (.inr (.inr false)) else (AY b.elems a.1).bind fun g => (Bs a.2 [g]).bind fun h => some (.inl (AP (a.1 + 1), h)) else ((Ie d b.elems).bind fun i => bif (!i.2) then some (.inr false) else some (.inl (AP (c.1 + 1), a.2))).map .inr
noncomputable def It (b : AK) (a : Int × (List Int)) : Option ((Int × (List Int)) ⊕ Bool) :=
 bif decide (a.1 < (b.lines.length : Int)) then (AY b.lines a.1).bind fun c => AO (Gf b a c) (0, a.2) else some (.inr true)
noncomputable def Jf (a : AK) : Option Bool :=
 AO (It a) (0, ([] : List Int))
theorem YC (d : AK) (r : Bool) (h : Jf d = some r) : Aw Tryz.prog 100 [.agg (AN d)] (· = .bool r) := by
 refine fn AA Tryz.func100 Z Z 49 Z [.tmp 2] Z [(0, .p (.agg (AN d)))] Z Z fun A hA => ?_
 unfold Jf at h
 refine rs AA <| rl Z <| rs AA <| rl Z <| AB <| rs AA <| rl Z <| AH ?_
 apply lp (a := r) (fun c : (Int × (List Int)) => ⟨49, [(1, .lpb 0 0), (3, .lsl 1 1 0 c.2.length), (4, li c.1)], [(0, bx (AN d)), (1, .row 3 1 (c.2.map Aa))], 2⟩) h
 . exact A8.trans (CS 3 3 1 Z) (wf hA [(0, 0), (1, 1)] Z Z Z)
 intro c g e
 unfold It at e
 refine AB <| rs AA <| rn 3 Z <| sx Z (Ae Z Z <| rl Z <| cd Z e (fun s => ?_) (fun aj => ?_))
 .refine AE <| AC <| AB <| AH <| rs AA <| rn 3 Z <| bq s fun al i t => sx Z (Ab i Z Z Z <| rl Z <| AB <| rs AA <| rl Z <| AH ?_)
  apply lp (a := g) (fun b : (Int × (List Int)) => ⟨49, [(1, .lpb 0 0), (3, .lsl 1 1 0 b.2.length), (4, li c.1), (5, ls 1 Aa al.elems), (6, li b.1)], [(0, bx (AN d)), (1, .row 3 1 (b.2.map Aa))], 2⟩) t
  . exact wf hA [(0, 0), (1, 1)] Z Z Z
  intro b au f
  unfold Gf at f
  refine AB <| rs AA <| rn 2 Z <| sx Z (Ae Z Z <| rl Z <| cd Z f (fun u => ?_) (fun ad => ?_))
  .refine AE <| AC <| AB <| AH <| AB <| rs AA <| rn 3 Z <| bq u fun av j v => sx Z (Ab j Z Z Z <| rn 1 Z <| bq v fun aw k w => sx Z (AM (XJ _ _ _ k) (.inl Z) Z Z (D1.eq (.cons (.one (.own (enc := Aa) b.2 Z Z)) (.cons (.one (.p _)) .nil))) <| rl Z <| cd Z w (fun x => ?_) (fun aa => ?_)))
   .refine rs AA <| rl Z <| AF <| AG <| AQ <| AG <| A3 x fun an y => AQ <| AG <| AQ <| AG <| A3 y fun ao z => AQ <| AG ?_
    cases z
    exact er Z Le.rfl
   exact AE <| AC <| rg AA <| rn 3 Z <| bq aa fun am n ab => sx Z (Ab n Z Z Z <| rn 2 Z <| bq ab fun ax o ac => sx Z (BW (enc := Aa) (l := b.2) (m := [am]) o (fun _ => ⟨Z, Z⟩) Z Z Z Z Z Z <| rl Z <| Ad <| AC <| rg AA <| rl Z <| Aq ac (wf hA [(0, 0), (1, 3)] Z Z Z)))
  refine AT <| AZ <| CF ad fun ap ae => An <| AC <| rs AA <| rn 2 Z <| bq ae fun ay q af => sx Z (AM (Wb _ _ _ q) (.inr Z) Z Z Z <| rl Z <| rs AA <| rl Z <| cd Z af (fun ag => ?_) (fun ai => ?_))
  .refine rs AA <| rl Z <| AF <| AQ <| AG <| A3 ag fun aq ah => AQ <| AG ?_
   cases ah
   exact er Z Le.rfl
  exact AE <| Ad <| AC <| rg AA <| rl Z <| Aq ai (wf hA [(0, 0), (1, 1)] Z Z Z)
 refine AT <| AZ <| BG aj fun ar ak => An <| AC <| rs AA <| rl Z <| AF ?_
 cases ak
 exact er Z Le.rfl
noncomputable def Jg (b : Int) (a : Int × Int) : Option ((Int × Int) ⊕ Int) :=
 bif decide (0 < a.1) then some (.inl (AP (a.1 - b), AP (a.2 + a.1))) else some (.inr a.2)
noncomputable def JA (b : Int) (a : Int) : Option Int :=
 ((bif decide (b < 0) then some true else bif decide (60 < b) then some true else bif decide (a < 1) then some true else some (decide (10 < a)) : Option (Bool))).bind fun (c : Bool) => bif c then some 0 else AO (Jg a) (AP (b - a), 0)
theorem ZH (c : Int) (b : Int) (r : Int) (h : JA c b = some r) : Aw Tryz.prog 142 [.int .i64 c, .int .i64 b] (· = .int .i64 r) := by
 refine fn AA Tryz.func142 Z Z 32 Z [.tmp 4] Z [(0, .p (.int .i64 c)), (1, .p (.int .i64 b))] Z Z fun A hA => ?_
 unfold JA at h
 refine rs AA <| rl Z <| AB <| jb (fun e : Bool => ⟨32, [(0, li c), (1, li b), (19, lb e)], [], 0⟩) h (fun e g => ?_) (fun e o => ?_)
 .refine rg AA <| rn 3 Z <| gs 8 g Z Z Z (fun i => ?_) (fun j => ?_)
  .exact rl Z <| AL i (wf hA [] Z Z Z)
  refine rn 4 Z <| gs 12 j Z Z Z (fun k => ?_) (fun l => ?_)
  .exact rl Z <| AL k (wf hA [] Z Z Z)
  refine rn 4 Z <| gs 16 l Z Z Z (fun m => ?_) (fun n => ?_)
  .exact rl Z <| AL m (wf hA [] Z Z Z)
  exact rl Z <| AL n (wf hA [] Z Z Z)
 refine cd Z o (fun q => ?_) (fun s => ?_)
 .refine rs AA <| rl Z <| AF <| AG ?_
  cases q
  exact er Z Le.rfl
 refine AE <| AC <| rs AA <| rl Z <| AB <| rs AA <| rl Z <| AH ?_
 apply lp (a := r) (fun d : (Int × Int) => ⟨32, [(0, li d.1), (1, li b), (5, li d.2)], [], 0⟩) s
 . exact wf hA [] Z Z Z
 intro d x f
 unfold Jg at f
 refine AB <| rs AA <| rl Z <| cd Z f (fun t => ?_) (fun u => ?_)
 .exact AE <| AC <| AB <| AH <| rg AA <| rl Z <| Ad <| AC <| rg AA <| rl Z <| Aq t (wf hA [] Z Z Z)
 refine AT <| AZ <| BG u fun w v => An <| AC <| rs AA <| rl Z <| AF ?_
 cases v
 exact er Z Le.rfl
noncomputable def Gv (b : AK) (a : Int) : Option Int :=
 ((bif decide (a < 0) then some true else some (decide ((b.elems.length : Int) <= a)) : Option (Bool))).bind fun (c : Bool) => bif c then some 0 else (AY b.elems a).bind fun d => some d.length
theorem Q3 (a : AK) (b : Int) (r : Int) (h : Gv a b = some r) : Aw Tryz.prog 59 [.agg (AN a), .int .i64 b] (· = .int .i64 r) := by
 refine fn AA Tryz.func59 Z Z 20 Z [.tmp 4] Z [(0, .p (.agg (AN a))), (1, .p (.int .i64 b))] Z Z fun A hA => ?_
 unfold Gv at h
 refine rs AA <| rl Z <| AB <| jb (fun c : Bool => ⟨20, [(1, li b), (2, .lpb 0 0), (13, lb c)], [(0, bx (AN a))], 1⟩) h (fun c e => ?_) (fun c i => ?_)
 .refine rg AA <| rn 3 Z <| gs 7 e Z Z Z (fun f => ?_) (fun g => ?_)
  .exact rl Z <| AL f (wf hA [(0, 0)] Z Z Z)
  exact rn 3 Z <| sx Z (Ae Z Z <| rl Z <| AL g (wf hA [(0, 0)] Z Z Z))
 refine cd Z i (fun j => ?_) (fun k => ?_)
 .refine rs AA <| rl Z <| AF <| AG ?_
  cases j
  exact er Z Le.rfl
 refine AE <| AC <| rs AA <| rn 3 Z <| bq k fun m d l => sx Z (Ab d Z Z Z <| rl Z <| AF ?_)
 cases l
 exact er Z Le.rfl
noncomputable def HZ (b : AK) (a : Int) : Option (Int ⊕ Bool) :=
 bif decide (a < (b.elems.length : Int)) then (((AY b.elems a).bind fun d => bif (d.kind != 4) then (AY b.elems a).bind fun e => some (decide (e.length < b.top)) else some false : Option (Bool))).bind fun (c : Bool) => bif c then some (.inr false) else some (.inl (AP (a + 1))) else some (.inr true)
noncomputable def Jh (a : AK) (b : Int) : Option (Int ⊕ Bool) :=
 bif decide (b < (a.signals.length : Int)) then (AY a.signals b).bind fun c => (((EG a c.at_.elem).bind fun e => bif (e == 1) then (Gv a c.at_.elem).bind fun f => some (decide (f < a.margin)) else some false : Option (Bool))).bind fun (d : Bool) => bif d then some (.inr false) else some (.inl (AP (b + 1))) else (AO (HZ a) 0).map .inr
noncomputable def K4 (a : AK) : Option Bool :=
 (JA a.top a.brake).bind fun b => bif decide (a.margin < AP (a.top + b)) then some false else AO (Jh a) 0
theorem ZI (b : AK) (r : Bool) (h : K4 b = some r) : Aw Tryz.prog 101 [.agg (AN b)] (· = .bool r) := by
 refine fn AA Tryz.func101 Z Z 68 Z [.tmp 2] Z [(0, .p (.agg (AN b)))] Z Z fun A hA => ?_
 unfold K4 at h
 refine rs AA <| rl Z <| AB <| AB ?_
 refine B0 AA mixed [0, 1, 2, 3, 4, 5, 6, 7, 8, 9, 10] 11 (by kernel_rfl) Z Z Z ?_
 refine Au 8 Z <| bq h fun a6 q s => As Z (A0 (ZH _ _ _ q) (.inl Z) Z Z Z <| BK Z <| AC <| cd Z s (fun t => ?_) (fun u => ?_))
 .refine rs AA <| rl Z <| AF <| AG ?_
  cases t
  exact er Z Le.rfl
 refine AE <| AC <| AB <| rs AA <| rl Z <| AH ?_
 apply lp (a := r) (fun c : Int => ⟨68, [(1, .lpb 0 0), (3, li c)], [(0, bx (AN b))], 1⟩) u
 . exact wf hA [(0, 0)] Z Z Z
 intro c az g
 unfold Jh at g
 refine AB <| rs AA <| rn 3 Z <| sx Z (Ae Z Z <| rl Z <| cd Z g (fun v => ?_) (fun ag => ?_))
 .refine AE <| AC <| AB <| AH <| rs AA <| rn 3 Z <| bq v fun a1 k w => sx Z (Ab k Z Z Z <| rl Z <| jb (fun e : Bool => ⟨68, [(1, .lpb 0 0), (3, li c), (42, lb e)], [(0, bx (AN b))], 1⟩) w (fun e x => ?_) (fun e ac => ?_))
  .refine B0 AA mixed [0, 1, 2, 3, 4, 5, 6, 7, 8, 9, 10, 11] 12 (by kernel_rfl) Z Z Z ?_
   refine Au 2 Z <| bq x fun a2 l y => As Z (A0 (I6 _ _ _ l) (.inl Z) Z Z Z <| Au 2 Z <| Ec 35 y Z Z Z (fun z => ?_) (fun ab => ?_))
   .exact Au 2 Z <| bq z fun a3 m aa => As Z (A0 (Q3 _ _ _ m) (.inl Z) Z Z Z <| BK Z <| AL aa (wf hA [(0, 0)] Z Z Z))
   exact BK Z <| AL ab (wf hA [(0, 0)] Z Z Z)
  refine cd Z ac (fun ad => ?_) (fun af => ?_)
  .refine rs AA <| rl Z <| AF <| AQ <| AG <| A3 ad fun aw ae => AQ <| AG ?_
   cases ae
   exact er Z Le.rfl
  exact AE <| Ad <| AC <| rg AA <| rl Z <| Aq af (wf hA [(0, 0)] Z Z Z)
 refine AT <| AZ <| CF ag fun j ah => An <| AC <| AB <| rs AA <| rl Z <| AH ?_
 apply lp (a := j) (fun d : Int => ⟨68, [(1, .lpb 0 0), (5, li d)], [(0, bx (AN b))], 1⟩) ah
 . exact wf hA [(0, 0)] Z Z Z
 intro d a0 i
 unfold HZ at i
 refine AB <| rs AA <| rn 3 Z <| sx Z (Ae Z Z <| rl Z <| cd Z i (fun ai => ?_) (fun au => ?_))
 .refine AE <| AC <| AB <| AH <| jb (fun f : Bool => ⟨68, [(1, .lpb 0 0), (5, li d), (67, lb f)], [(0, bx (AN b))], 1⟩) ai (fun f aj => ?_) (fun f ao => ?_)
  .refine B0 AA mixed [0, 1, 2, 3, 4, 5, 6, 7, 8, 9, 10, 11, 12, 13, 14, 15, 16, 17] 18 (by kernel_rfl) Z Z Z ?_
   refine Au 3 Z <| bq aj fun a4 n ak => As Z (Al Z (Ab n Z Z Z <| Au 4 Z <| Ec 57 ak Z Z Z (fun al => ?_) (fun an => ?_)))
   .exact Au 3 Z <| bq al fun a5 o am => As Z (Al Z (Ab o Z Z Z <| BK Z <| AL am (wf hA [(0, 0)] Z Z Z)))
   exact BK Z <| AL an (wf hA [(0, 0)] Z Z Z)
  refine cd Z ao (fun ap => ?_) (fun ar => ?_)
  .refine rs AA <| rl Z <| AF <| AQ <| AG <| A3 ap fun ax aq => AQ <| AG ?_
   cases aq
   exact er Z Le.rfl
  exact AE <| Ad <| AC <| rg AA <| rl Z <| Aq ar (wf hA [(0, 0)] Z Z Z)
 refine AT <| AZ <| BG au fun ay av => An <| AC <| rs AA <| rl Z <| AF ?_
 cases av
 exact er Z Le.rfl
noncomputable def Ji (a : AK) : Option Int :=
 ((bif decide (40 < (a.elems.length : Int)) then some true else bif decide (24 < (a.signals.length : Int)) then some true else bif decide (4 < (a.lines.length : Int)) then some true else some (decide (80 < (a.joins.length : Int))) : Option (Bool))).bind fun (d : Bool) => bif d then some 3 else (JR a).bind fun b => (Kw a).bind fun l => bif (!l) then some 1 else (((GH b.1).bind fun e => bif e then some true else (GH b.2.1).bind fun f => bif f then some true else (GH b.2.2).bind fun g => some g : Option (Bool))).bind fun (c : Bool) => bif c then some 4 else (Ic a).bind fun h => bif (!h) then some 6 else (HY a).bind fun i => bif (!i) then some 7 else (Jf a).bind fun j => bif (!j) then some 8 else (K4 a).bind fun k => bif (!k) then some 9 else some 0
theorem YD (a : AK) (r : Int) (h : Ji a = some r) : Aw Tryz.prog 65 [.agg (AN a)] (· = .int .i64 r) := by
 refine fn AA Tryz.func65 Z Z 65 Z [.tmp 2] Z [(0, .p (.agg (AN a)))] Z Z fun A hA => ?_
 unfold Ji at h
 refine rs AA <| rl Z <| AB <| jb (fun c : Bool => ⟨65, [(1, .lpb 0 0), (27, lb c)], [(0, bx (AN a))], 1⟩) h (fun c am => ?_) (fun c av => ?_)
 .refine rg AA <| rn 2 Z <| sx Z (Ae Z Z <| rn 2 Z <| gs 10 am Z Z Z (fun an => ?_) (fun ao => ?_))
  .exact rl Z <| AL an (wf hA [(0, 0)] Z Z Z)
  refine rn 2 Z <| sx Z (Ae Z Z <| rn 3 Z <| gs 16 ao Z Z Z (fun ap => ?_) (fun aq => ?_))
  .exact rl Z <| AL ap (wf hA [(0, 0)] Z Z Z)
  refine rn 2 Z <| sx Z (Ae Z Z <| rn 3 Z <| gs 22 aq Z Z Z (fun ar => ?_) (fun au => ?_))
  .exact rl Z <| AL ar (wf hA [(0, 0)] Z Z Z)
  exact rn 2 Z <| sx Z (Ae Z Z <| rl Z <| AL au (wf hA [(0, 0)] Z Z Z))
 refine cd Z av (fun aw => ?_) (fun ax => ?_)
 .refine rs AA <| rl Z <| AF <| AG ?_
  cases aw
  exact er Z Le.rfl
 refine AE <| AC <| rs AA <| rn 1 Z <| bq ax fun a9 l ay => sx Z (AM (X3 _ _ l) (.inr Z) Z Z Z <| rl Z <| AB <| AH <| rs AA <| rn 1 Z <| bq ay fun ba m az => sx Z (AM (ZB _ _ m) (.inl Z) Z Z Z <| rl Z <| cd Z az (fun a0 => ?_) (fun a1 => ?_)))
 .refine rs AA <| rl Z <| AF <| AQ <| AG ?_
  cases a0
  exact er Z Le.rfl
 refine jb (fun b : Bool => ⟨65, [(1, .lpb 0 0), (38, lb b)], [(0, bx (AN a))], 1⟩) a1 (fun b n => ?_) (fun b x => ?_)
 .refine rg AA <| rn 1 Z <| bq n fun a2 d o => sx Z (AM (Oh _ _ d) (.inl Z) Z Z Z <| rn 1 Z <| gs 41 o Z Z Z (fun q => ?_) (fun s => ?_))
  .exact rl Z <| AL q (wf hA [(0, 0)] Z Z Z)
  refine rn 1 Z <| bq s fun a3 e t => sx Z (AM (Oh _ _ e) (.inl Z) Z Z Z <| rn 2 Z <| gs 45 t Z Z Z (fun u => ?_) (fun v => ?_))
  .exact rl Z <| AL u (wf hA [(0, 0)] Z Z Z)
  exact rn 1 Z <| bq v fun a4 f w => sx Z (AM (Oh _ _ f) (.inl Z) Z Z Z <| rl Z <| AL w (wf hA [(0, 0)] Z Z Z))
 refine cd Z x (fun y => ?_) (fun z => ?_)
 .refine rs AA <| rl Z <| AF <| AQ <| AG ?_
  cases y
  exact er Z Le.rfl
 refine rs AA <| rn 1 Z <| bq z fun a5 g aa => sx Z (AM (Wa _ _ g) (.inl Z) Z Z Z <| rl Z <| cd Z aa (fun ab => ?_) (fun ac => ?_))
 .refine rs AA <| rl Z <| AF <| AQ <| AG ?_
  cases ab
  exact er Z Le.rfl
 refine rs AA <| rn 1 Z <| bq ac fun a6 i ad => sx Z (AM (VQ _ _ i) (.inl Z) Z Z Z <| rl Z <| cd Z ad (fun ae => ?_) (fun af => ?_))
 .refine rs AA <| rl Z <| AF <| AQ <| AG ?_
  cases ae
  exact er Z Le.rfl
 refine rs AA <| rn 1 Z <| bq af fun a7 j ag => sx Z (AM (YC _ _ j) (.inl Z) Z Z Z <| rl Z <| cd Z ag (fun ah => ?_) (fun ai => ?_))
 .refine rs AA <| rl Z <| AF <| AQ <| AG ?_
  cases ah
  exact er Z Le.rfl
 refine rs AA <| rn 1 Z <| bq ai fun a8 k aj => sx Z (AM (ZI _ _ k) (.inl Z) Z Z Z <| rl Z <| cd Z aj (fun ak => ?_) (fun al => ?_))
 .refine rs AA <| rl Z <| AF <| AQ <| AG ?_
  cases ak
  exact er Z Le.rfl
 refine AE <| Ad <| AC <| rs AA <| rl Z <| AF ?_
 cases al
 exact er Z Le.rfl
noncomputable def HX (a : AK) : Option Bool :=
 (((MA a).bind fun d => bif d then (Ji a).bind fun c => some (c == 0) else some false : Option (Bool))).bind fun (b : Bool) => some b
theorem Px (b : AK) (r : Bool) (h : HX b = some r) : Aw Tryz.prog 35 [.agg (AN b)] (· = .bool r) := by
 refine fn AA Tryz.func35 Z Z 10 Z [.tmp 2] Z [(0, .p (.agg (AN b)))] Z Z fun A hA => ?_
 unfold HX at h
 refine rs AA <| rl Z <| jb (fun a : Bool => ⟨10, [(2, lb a)], [], 0⟩) h (fun a k => ?_) (fun a j => ?_)
 .refine rg AA <| rn 1 Z <| bq k fun m d e => sx Z (AM (AAI _ _ d) (.inl Z) Z Z Z <| rn 1 Z <| gs 5 e Z Z Z (fun f => ?_) (fun i => ?_))
  .exact rn 1 Z <| bq f fun l c g => sx Z (AM (YD _ _ c) (.inl Z) Z Z Z <| rl Z <| AL g (wf hA [] Z Z Z))
  exact rl Z <| AL i (wf hA [] Z Z Z)
 refine AF ?_
 have hr := Option.some.inj j; subst hr
 exact er Z Le.rfl
noncomputable def E5 (a : Int) : Option Bool :=
 ((bif decide (97 <= a) then bif decide (a <= 122) then some true else bif decide (65 <= a) then some (decide (a <= 90)) else some false else bif decide (65 <= a) then some (decide (a <= 90)) else some false : Option (Bool))).bind fun (b : Bool) => some b
theorem PF (b : Int) (r : Bool) (h : E5 b = some r) : Aw Tryz.prog 156 [.int .u8 b] (· = .bool r) := by
 refine fn AA Tryz.func156 Z Z 17 Z [.tmp 2] Z [(0, .p (.int .u8 b))] Z Z fun A hA => ?_
 unfold E5 at h
 refine rs AA <| rl Z <| jb (fun a : Bool => ⟨17, [(2, lb a)], [], 0⟩) h (fun a c => ?_) (fun a m => ?_)
 .refine rg AA <| rn 3 Z <| gs 5 c Z Z Z (fun d => ?_) (fun j => ?_)
  .refine rn 4 Z <| gs 9 d Z Z Z (fun e => ?_) (fun f => ?_)
   .exact rl Z <| AL e (wf hA [] Z Z Z)
   refine rn 3 Z <| gs 12 f Z Z Z (fun g => ?_) (fun i => ?_)
   .exact rl Z <| AL g (wf hA [] Z Z Z)
   exact rl Z <| AL i (wf hA [] Z Z Z)
  refine rn 7 Z <| gs 12 j Z Z Z (fun k => ?_) (fun l => ?_)
  .exact rl Z <| AL k (wf hA [] Z Z Z)
  exact rl Z <| AL l (wf hA [] Z Z Z)
 refine AF ?_
 have hr := Option.some.inj m; subst hr
 exact er Z Le.rfl
noncomputable def Cq (b : ByteArray) (a : Int) : Option (Int ⊕ Bool) :=
 bif decide (a < (b.size : Int)) then (((LD b a).bind fun d => (E5 (d.toNat : Int)).bind fun e => bif (!e) then (LD b a).bind fun f => bif decide ((f.toNat : Int) < 48) then some true else (LD b a).bind fun g => some (decide (57 < (g.toNat : Int))) else some false : Option (Bool))).bind fun (c : Bool) => bif c then some (.inr false) else some (.inl (AP (a + 1))) else some (.inr true)
noncomputable def CJ (a : ByteArray) : Option Bool :=
 ((bif (a.toList == ByteArray.empty.toList) then some true else bif decide (8 < (a.size : Int)) then some true else (LD a 0).bind fun c => (E5 (c.toNat : Int)).bind fun d => some (!d) : Option (Bool))).bind fun (b : Bool) => bif b then some false else AO (Cq a) 1
theorem IW (b : ByteArray) (r : Bool) (h : CJ b = some r) : Aw Tryz.prog 125 [.str b] (· = .bool r) := by
 refine fn AA Tryz.func125 Z Z 40 Z [.tmp 2] Z [(0, .p (.str b))] Z Z fun A hA => ?_
 unfold CJ at h
 refine rs AA <| rl Z <| AB <| jb (fun d : Bool => ⟨40, [(0, .p (.str b)), (16, lb d)], [], 0⟩) h (fun d n => ?_) (fun d x => ?_)
 .refine rg AA <| rn 3 Z <| gs 6 n Z Z Z (fun o => ?_) (fun q => ?_)
  .exact rl Z <| AL o (wf hA [] Z Z Z)
  refine rn 5 Z <| gs 11 q Z Z Z (fun s => ?_) (fun t => ?_)
  .exact rl Z <| AL s (wf hA [] Z Z Z)
  exact rn 1 Z <| bq t fun au g v => sx Z (Pk g Z Z Z <| bq v fun av i w => sx Z (AM (PF _ _ i) (.inl Z) Z Z Z <| rl Z <| AL w (wf hA [] Z Z Z)))
 refine cd Z x (fun z => ?_) (fun ah => ?_)
 .refine rs AA <| rl Z <| AF <| AG ?_
  cases z
  exact er Z Le.rfl
 refine AE <| AC <| AB <| rs AA <| rl Z <| AH ?_
 apply lp (a := r) (fun c : Int => ⟨40, [(0, .p (.str b)), (3, li c)], [], 0⟩) ah
 . exact wf hA [] Z Z Z
 intro c ar f
 unfold Cq at f
 refine AB <| rs AA <| rl Z <| cd Z f (fun u => ?_) (fun an => ?_)
 .refine AE <| AC <| AB <| AH <| jb (fun e : Bool => ⟨40, [(0, .p (.str b)), (3, li c), (39, lb e)], [], 0⟩) u (fun e y => ?_) (fun e aj => ?_)
  .refine rg AA <| rn 2 Z <| bq y fun aw j aa => sx Z (Pk j Z Z Z <| bq aa fun ax k ab => sx Z (AM (PF _ _ k) (.inl Z) Z Z Z <| rn 2 Z <| gs 28 ab Z Z Z (fun ac => ?_) (fun ai => ?_)))
   .refine rn 2 Z <| bq ac fun ay l ad => sx Z (Pk l Z Z Z <| rn 2 Z <| gs 33 ad Z Z Z (fun ae => ?_) (fun af => ?_))
    .exact rl Z <| AL ae (wf hA [] Z Z Z)
    exact rn 2 Z <| bq af fun az m ag => sx Z (Pk m Z Z Z <| rl Z <| AL ag (wf hA [] Z Z Z))
   exact rl Z <| AL ai (wf hA [] Z Z Z)
  refine cd Z aj (fun ak => ?_) (fun am => ?_)
  .refine rs AA <| rl Z <| AF <| AQ <| AG <| A3 ak fun ap al => AQ <| AG ?_
   cases al
   exact er Z Le.rfl
  exact AE <| Ad <| AC <| rg AA <| rl Z <| Aq am (wf hA [] Z Z Z)
 refine AT <| AZ <| BG an fun aq ao => An <| AC <| rs AA <| rl Z <| AF ?_
 cases ao
 exact er Z Le.rfl
noncomputable def FY (a : Int) : Option Int :=
 bif (a == 1) then some 2 else bif (a == 2) then some 3 else bif (a == 3) then some 4 else bif (a == 4) then some 1 else some 0
theorem KW (a : Int) (r : Int) (h : FY a = some r) : Aw Tryz.prog 158 [.int .i64 a] (· = .int .i64 r) := by
 refine fn AA Tryz.func158 Z Z 12 Z [.tmp 2] Z [(0, .p (.int .i64 a))] Z Z fun A hA => ?_
 unfold FY at h
 refine rs AA <| rl Z <| AB <| rs AA <| rl Z <| AH <| rs AA <| rl Z <| cd Z h (fun j => ?_) (fun b => ?_)
 .refine rs AA <| rl Z <| AF <| AQ <| AG ?_
  cases j
  exact er Z Le.rfl
 refine rs AA <| rl Z <| cd Z b (fun c => ?_) (fun d => ?_)
 .refine rs AA <| rl Z <| AF <| AQ <| AG ?_
  cases c
  exact er Z Le.rfl
 refine rs AA <| rl Z <| cd Z d (fun e => ?_) (fun f => ?_)
 .refine rs AA <| rl Z <| AF <| AQ <| AG ?_
  cases e
  exact er Z Le.rfl
 refine rs AA <| rl Z <| cd Z f (fun g => ?_) (fun i => ?_)
 .refine rs AA <| rl Z <| AF <| AQ <| AG ?_
  cases g
  exact er Z Le.rfl
 refine AE <| Ad <| AC <| rs AA <| rl Z <| AF ?_
 cases i
 exact er Z Le.rfl
noncomputable def C7 (b : AK) (a : Int) : Option (Int ⊕ Bool) :=
 bif decide (a < (b.lines.length : Int)) then (AY b.lines a).bind fun c => (CJ c.name).bind fun d => bif (!d) then some (.inr false) else some (.inl (AP (a + 1))) else some (.inr true)
noncomputable def C8 (b : AK) (a : Int) : Option (Int ⊕ Bool) :=
 bif decide (a < (b.signals.length : Int)) then (AY b.signals a).bind fun c => (CJ c.name).bind fun d => bif (!d) then some (.inr false) else some (.inl (AP (a + 1))) else (AO (C7 b) 0).map .inr
noncomputable def D2 (c : AK) (b : Int) : Option (Int ⊕ Bool) :=
 bif decide (b < (c.elems.length : Int)) then Eb (((AY c.elems b).bind fun a => (((CJ a.name).bind fun f => bif (!f) then some true else (FY a.kind).bind fun g => some (g == 0) : Option (Bool))).bind fun (d : Bool) => bif d then some (.inr (.inr false)) else bif (a.kind == 4) then bif (a.length != 0) then some (.inr (.inr false)) else some (.inl ()) else ((bif decide (a.length < 1) then some true else some (decide (4000 < a.length)) : Option (Bool))).bind fun (e : Bool) => bif e then some (.inr (.inr false)) else some (.inl ()) : Option (Unit ⊕ (Int ⊕ Bool)))) fun (h : Unit) => some (.inl (AP (b + 1))) else (AO (C8 c) 0).map .inr
noncomputable def Fx (a : AK) : Option Bool :=
 ((bif decide (a.top < 1) then some true else bif decide (60 < a.top) then some true else bif decide (a.brake < 1) then some true else bif decide (10 < a.brake) then some true else bif decide (a.margin < 1) then some true else bif decide (4000 < a.margin) then some true else bif decide (a.throw < 1) then some true else bif decide (20 < a.throw) then some true else some ((a.elems.length : Int) == 0) : Option (Bool))).bind fun (b : Bool) => bif b then some false else AO (D2 a) 0
theorem TG (b : AK) (r : Bool) (h : Fx b = some r) : Aw Tryz.prog 127 [.agg (AN b)] (· = .bool r) := by
 refine fn AA Tryz.func127 Z Z 112 Z [.tmp 2] Z [(0, .p (.agg (AN b)))] Z Z fun A hA => ?_
 unfold Fx at h
 refine rs AA <| rl Z <| sc <| AB <| jb (fun d : Bool => ⟨112, [(1, .lpb 0 0), (52, lb d)], [(0, bx (AN b))], 1⟩) h (fun d z => ?_) (fun d bm => ?_)
 .refine rg AA <| rn 4 Z <| gs 12 z Z Z Z (fun aa => ?_) (fun ad => ?_)
  .exact rl Z <| AL aa (wf hA [(0, 0)] Z Z Z)
  refine rn 5 Z <| gs 17 ad Z Z Z (fun ak => ?_) (fun ar => ?_)
  .exact rl Z <| AL ak (wf hA [(0, 0)] Z Z Z)
  refine rn 5 Z <| gs 22 ar Z Z Z (fun az => ?_) (fun a8 => ?_)
  .exact rl Z <| AL az (wf hA [(0, 0)] Z Z Z)
  refine rn 5 Z <| gs 27 a8 Z Z Z (fun bb => ?_) (fun bc => ?_)
  .exact rl Z <| AL bb (wf hA [(0, 0)] Z Z Z)
  refine rn 5 Z <| gs 32 bc Z Z Z (fun be => ?_) (fun bf => ?_)
  .exact rl Z <| AL be (wf hA [(0, 0)] Z Z Z)
  refine rn 5 Z <| gs 37 bf Z Z Z (fun bg => ?_) (fun bh => ?_)
  .exact rl Z <| AL bg (wf hA [(0, 0)] Z Z Z)
  refine rn 5 Z <| gs 42 bh Z Z Z (fun bi => ?_) (fun bj => ?_)
  .exact rl Z <| AL bi (wf hA [(0, 0)] Z Z Z)
  refine rn 5 Z <| gs 47 bj Z Z Z (fun bk => ?_) (fun bl => ?_)
  .exact rl Z <| AL bk (wf hA [(0, 0)] Z Z Z)
  exact rn 2 Z <| sx Z (Ae Z Z <| rl Z <| AL bl (wf hA [(0, 0)] Z Z Z))
 refine cd Z bm (fun bn => ?_) (fun bo => ?_)
 .refine rs AA <| rl Z <| AF <| AG <| JN ?_
  cases bn
  exact er Z Le.rfl
 refine AE <| AC <| AB <| Kg <| AC <| AB <| rs AA <| rn 2 Z <| sx Z (Ae Z Z <| rl Z <| AH ?_)
 apply lp (a := r) (fun c : Int => ⟨112, [(1, .lpb 0 0), (54, ls 3 CE b.elems), (55, li (b.elems.length : Int)), (56, li c)], [(0, bx (AN b))], 1⟩) bo
 . exact wf hA [(0, 0)] Z Z Z
 intro c o g
 unfold D2 at g
 refine rs AA <| rl Z <| AB <| cd Z g (fun y => ?_) (fun a9 => ?_)
 .refine AE <| AC ?_
  apply jn (a := o) (fun b8 : Unit => ⟨112, [(1, .lpb 0 0), (54, ls 3 CE b.elems), (55, li (b.elems.length : Int)), (56, li c)], [(0, bx (AN b))], 1⟩) y
  .intro ck ab
   refine AH <| rs AA <| bq ab fun b9 q ac => sx Z (Ab q Z Z Z <| rl Z <| AH <| jb (fun e : Bool => ⟨112, [(1, .lpb 0 0), (4, .lpb 1 0), (54, ls 3 CE b.elems), (55, li (b.elems.length : Int)), (56, li c), (60, lb e)], [(0, bx (AN b)), (1, bx (CE b9))], 2⟩) ac (fun e ae => ?_) (fun e aj => ?_))
   .refine rg AA <| rn 2 Z <| bq ae fun cn s af => sx Z (AM (IW _ _ s) (.inl Z) Z Z Z <| rn 2 Z <| gs 65 af Z Z Z (fun ag => ?_) (fun ah => ?_))
    .exact rl Z <| AL ag (wf hA [(0, 0), (1, 1)] Z Z Z)
    exact rn 2 Z <| bq ah fun co t ai => sx Z (AM (KW _ _ t) (.inl Z) Z Z Z <| rl Z <| AL ai (wf hA [(0, 0), (1, 1)] Z Z Z))
   refine cd Z aj (fun al => ?_) (fun ao => ?_)
   .refine rs AA <| rl Z <| AF <| AQ <| AQ <| A3 al fun ca am => A3 am fun cb an => AQ <| AG <| JN ?_
    cases an
    exact er Z Le.rfl
   refine rs AA <| rl Z <| cd Z ao (fun ap => ?_) (fun ax => ?_)
   .refine AB <| rs AA <| rl Z <| cd Z ap (fun aq => ?_) (fun aw => ?_)
    .refine rs AA <| rl Z <| AF <| AG <| AQ <| AQ <| A3 aq fun cc au => A3 au fun ce av => AQ <| AG <| JN ?_
     cases av
     exact er Z Le.rfl
    exact AE <| AC <| AT <| MZ Z <| An <| Aq aw (wf hA [(0, 0)] Z Z Z)
   refine jb (fun f : Bool => ⟨112, [(1, .lpb 0 0), (54, ls 3 CE b.elems), (55, li (b.elems.length : Int)), (56, li c), (78, lb f)], [(0, bx (AN b))], 1⟩) ax (fun f ay => ?_) (fun f a2 => ?_)
   .refine rg AA <| rn 4 Z <| gs 82 ay Z Z Z (fun a0 => ?_) (fun a1 => ?_)
    .exact rl Z <| AL a0 (wf hA [(0, 0)] Z Z Z)
    exact rl Z <| AL a1 (wf hA [(0, 0)] Z Z Z)
   refine cd Z a2 (fun a3 => ?_) (fun a6 => ?_)
   .refine rs AA <| rl Z <| AF <| AQ <| AQ <| A3 a3 fun cf a4 => A3 a4 fun cg a5 => AQ <| AG <| JN ?_
    cases a5
    exact er Z Le.rfl
   exact AE <| Ad <| Ad <| Aq a6 (wf hA [(0, 0)] Z Z Z)
  intro b8 a7
  exact rg AA <| rl Z <| Aq a7 (wf hA [(0, 0)] Z Z Z)
 refine AT <| AZ <| CF a9 fun m ba => An <| AC <| AB <| rs AA <| rn 2 Z <| sx Z (Ae Z Z <| rl Z <| AH ?_)
 apply lp (a := m) (fun k : Int => ⟨112, [(1, .lpb 0 0), (89, ls 4 BY b.signals), (90, li (b.signals.length : Int)), (91, li k)], [(0, bx (AN b))], 1⟩) ba
 . exact wf hA [(0, 0)] Z Z Z
 intro k cl i
 unfold C8 at i
 refine rs AA <| rl Z <| AB <| cd Z i (fun bp => ?_) (fun bw => ?_)
 .refine AE <| AC <| AB <| AH <| rs AA <| bq bp fun cp u br => sx Z (Ab u Z Z Z <| rl Z <| rs AA <| rn 2 Z <| bq br fun cq v bs => sx Z (AM (IW _ _ v) (.inl Z) Z Z Z <| rl Z <| cd Z bs (fun bt => ?_) (fun bv => ?_)))
  .refine rs AA <| rl Z <| AF <| AQ <| AG <| A3 bt fun ch bu => AQ <| AG <| JN ?_
   cases bu
   exact er Z Le.rfl
  exact AE <| Ad <| AC <| rg AA <| rl Z <| Aq bv (wf hA [(0, 0)] Z Z Z)
 refine AT <| AZ <| CF bw fun n bz => An <| AC <| AB <| rs AA <| rn 2 Z <| sx Z (Ae Z Z <| rl Z <| AH ?_)
 apply lp (a := n) (fun l : Int => ⟨112, [(101, ls 2 BZ b.lines), (102, li (b.lines.length : Int)), (103, li l)], [], 0⟩) bz
 . exact wf hA [] Z Z Z
 intro l cm j
 unfold C7 at j
 refine rs AA <| rl Z <| AB <| cd Z j (fun b0 => ?_) (fun b6 => ?_)
 .refine AE <| AC <| AB <| AH <| rs AA <| bq b0 fun cr w b1 => sx Z (Ab w Z Z Z <| rl Z <| rs AA <| rn 2 Z <| bq b1 fun cs x b2 => sx Z (AM (IW _ _ x) (.inl Z) Z Z Z <| rl Z <| cd Z b2 (fun b3 => ?_) (fun b5 => ?_)))
  .refine rs AA <| rl Z <| AF <| AQ <| AG <| A3 b3 fun ci b4 => AQ <| AG <| JN ?_
   cases b4
   exact er Z Le.rfl
  exact AE <| Ad <| AC <| rg AA <| rl Z <| Aq b5 (wf hA [] Z Z Z)
 refine AT <| AZ <| BG b6 fun cj b7 => An <| AC <| rs AA <| rl Z <| AF <| JN ?_
 cases b7
 exact er Z Le.rfl
end Go.E
/- Plain functions, and walks in step with them. Written by a program (gen.py). No condition. -/
set_option maxRecDepth 100000
set_option maxHeartbeats 1000000
namespace Go.E
open Go Go.RowKit Go.Proofs
noncomputable def Fy (a : Int) (b : AK) : Option ByteArray :=
 (AY b.elems a).bind fun c => some c.name
theorem Np (a : Int) (b : AK) (r : ByteArray) (h : Fy a b = some r) : Aw Tryz.prog 129 [.int .i64 a, .place (AN b) 0] (· = .str r) := by
 refine fn AA Tryz.func129 Z Z 10 Z [.tmp 3] Z [(0, .p (.int .i64 a)), (1, .p (.place (AN b) 0))] Z Z fun A hA => ?_
 unfold Fy at h
 refine rs AA <| rl Z <| rs AA <| rn 3 Z <| bq h fun e c d => sx Z (Ab c Z Z Z <| rl Z <| AF ?_)
 cases d
 exact er Z Le.rfl
noncomputable def Fz (a : Int) (b : AK) : Option ByteArray :=
 (AY b.signals a).bind fun c => some c.name
theorem Nq (a : Int) (b : AK) (r : ByteArray) (h : Fz a b = some r) : Aw Tryz.prog 130 [.int .i64 a, .place (AN b) 0] (· = .str r) := by
 refine fn AA Tryz.func130 Z Z 10 Z [.tmp 3] Z [(0, .p (.int .i64 a)), (1, .p (.place (AN b) 0))] Z Z fun A hA => ?_
 unfold Fz at h
 refine rs AA <| rl Z <| rs AA <| rn 3 Z <| bq h fun e c d => sx Z (Ab c Z Z Z <| rl Z <| AF ?_)
 cases d
 exact er Z Le.rfl
noncomputable def F0 (a : Int) (b : AK) : Option ByteArray :=
 (AY b.lines a).bind fun c => some c.name
theorem Nr (a : Int) (b : AK) (r : ByteArray) (h : F0 a b = some r) : Aw Tryz.prog 131 [.int .i64 a, .place (AN b) 0] (· = .str r) := by
 refine fn AA Tryz.func131 Z Z 10 Z [.tmp 3] Z [(0, .p (.int .i64 a)), (1, .p (.place (AN b) 0))] Z Z fun A hA => ?_
 unfold F0 at h
 refine rs AA <| rl Z <| rs AA <| rn 3 Z <| bq h fun e c d => sx Z (Ab c Z Z Z <| rl Z <| AF ?_)
 cases d
 exact er Z Le.rfl
noncomputable def Gx (b : AK) (a : AI) : Option Bool :=
 ((bif decide (0 <= a.elem) then bif decide (a.elem < (b.elems.length : Int)) then bif decide (0 <= a.fin) then (AY b.elems a.elem).bind fun d => (FY d.kind).bind fun e => some (decide (a.fin < e)) else some false else some false else some false : Option (Bool))).bind fun (c : Bool) => some c
theorem M9 (b : AK) (c : AI) (r : Bool) (h : Gx b c = some r) : Aw Tryz.prog 159 [.agg (AN b), .agg (AW c)] (· = .bool r) := by
 refine fn AA Tryz.func159 Z Z 34 Z [.tmp 4] Z [(0, .p (.agg (AN b))), (1, .p (.agg (AW c)))] Z Z fun A hA => ?_
 unfold Gx at h
 refine rs AA <| rl Z <| jb (fun a : Bool => ⟨34, [(4, lb a)], [], 0⟩) h (fun a f => ?_) (fun a q => ?_)
 .refine B0 AA mixed [0, 1, 2, 3, 4, 5, 6, 7, 8, 9, 10, 11, 12, 13, 14, 15, 16, 17, 18, 19, 20, 21, 22, 23, 24, 25, 26, 27, 28, 29] 30 (by kernel_rfl) Z Z Z ?_
  refine Au 4 Z <| Ec 8 f Z Z Z (fun g => ?_) (fun o => ?_)
  .refine Au 4 Z <| As Z (Kr Z Z <| Au 3 Z <| Ec 16 g Z Z Z (fun i => ?_) (fun n => ?_))
   .refine Au 5 Z <| Ec 21 i Z Z Z (fun j => ?_) (fun m => ?_)
    .exact Au 6 Z <| bq j fun s d k => As Z (Al Z (Ab d Z Z Z <| Au 2 Z <| bq k fun t e l => As Z (A0 (KW _ _ e) (.inl Z) Z Z Z <| BK Z <| AL l (wf hA [] Z Z Z))))
    exact BK Z <| AL m (wf hA [] Z Z Z)
   exact BK Z <| AL n (wf hA [] Z Z Z)
  exact BK Z <| AL o (wf hA [] Z Z Z)
 refine AF ?_
 have hr := Option.some.inj q; subst hr
 exact er Z Le.rfl
noncomputable def DT (c : AK) (b : (Int × (List (AI × AI)))) (a : Int) : Option (Int ⊕ ((List (AI × AI)) × Bool)) :=
 bif decide (a < (c.elems.length : Int)) then Eb (((AY c.elems a).bind fun e => bif (e.kind != 4) then some (.inl ()) else ((bif (!(Am b.2 (⟨a, 0⟩ : AI)).isSome) then some true else (AY c.elems (((Am b.2 (⟨a, 0⟩ : AI)).getD (⟨0, 0⟩ : AI)).elem)).bind fun f => some (f.kind == 4) : Option (Bool))).bind fun (d : Bool) => bif d then some (.inr (.inr ([], false))) else some (.inl ()) : Option (Unit ⊕ (Int ⊕ ((List (AI × AI)) × Bool))))) fun (g : Unit) => some (.inl (AP (a + 1))) else some (.inr (b.2, true))
noncomputable def Eg (e : AK) (d : Int × (List (AI × AI))) : Option ((Int × (List (AI × AI))) ⊕ ((List (AI × AI)) × Bool)) :=
 bif decide (d.1 < (e.joins.length : Int)) then (AY e.joins d.1).bind fun c => ((bif (Am d.2 c.a).isSome then some true else bif (Am d.2 c.b).isSome then some true else bif (c.a == c.b) then some true else (Gx e c.a).bind fun g => bif (!g) then some true else (Gx e c.b).bind fun h => some (!h) : Option (Bool))).bind fun (f : Bool) => bif f then some (.inr ([], false)) else some (.inl (AP (d.1 + 1), A1 c.b c.a (A1 c.a c.b d.2))) else (AO (DT e d) 0).map .inr
noncomputable def Gg (a : AK) : Option ((List (AI × AI)) × Bool) :=
 AO (Eg a) (0, [])
theorem UM (c : AK) (r : ((List (AI × AI)) × Bool)) (h : Gg c = some r) : Aw Tryz.prog 132 [.agg (AN c)] (· = .tup [.map (Ao (fun x => .agg (AW x)) (fun x => .agg (AW x)) r.1), .bool r.2]) := by
 refine fn AA Tryz.func132 Z Z 105 Z [.tmp 2, .tmp 3] Z [(0, .p (.agg (AN c)))] Z Z fun A hA => ?_
 unfold Gg at h
 refine rs AA <| rl Z <| rs AA <| rl Z <| AB <| rs AA <| rn 2 Z <| sx Z (Ae Z Z <| rl Z <| AH ?_)
 apply lp (a := r) (fun d : (Int × (List (AI × AI))) => ⟨105, [(1, .lpb 0 0), (4, .lmap 1), (17, ls 4 C1 c.joins), (18, li (c.joins.length : Int)), (19, li d.1)], [(0, bx (AN c)), (1, .map (Ao (fun x => .agg (AW x)) (fun x => .agg (AW x)) d.2))], 2⟩) h
 . exact wf hA [(0, 0), (1, 1)] Z Z Z
 intro d bg k
 unfold Eg at k
 refine rs AA <| rl Z <| AB <| cd Z k (fun ao => ?_) (fun a7 => ?_)
 .refine AE <| AC <| AB <| AH <| rs AA <| bq ao fun e q ap => sx Z (Ab q Z Z Z <| rl Z <| rs AA <| rn 3 Z <| sx Z (KR (et := 40) (ke := (fun x => .agg (AW x))) (ve := (fun x => .agg (AW x))) (mp := d.2) (y := e.a) (⟨0, 0⟩ : AI) CN Z Z Z Z <| rl Z <| rs AA <| rn 3 Z <| sx Z (KR (et := 40) (ke := (fun x => .agg (AW x))) (ve := (fun x => .agg (AW x))) (mp := d.2) (y := e.b) (⟨0, 0⟩ : AI) CN Z Z Z Z <| rl Z <| AB <| jb (fun i : Bool => ⟨105, [(1, .lpb 0 0), (4, .lmap 1), (6, .lpb 2 0), (17, ls 4 C1 c.joins), (18, li (c.joins.length : Int)), (19, li d.1), (61, lb i)], [(0, bx (AN c)), (1, .map (Ao (fun x => .agg (AW x)) (fun x => .agg (AW x)) d.2)), (2, bx (C1 e))], 3⟩) ap (fun i aq => ?_) (fun i a3 => ?_))))
  .refine rg AA <| rn 2 Z <| gs 38 aq Z Z Z (fun ar => ?_) (fun au => ?_)
   .exact rl Z <| AL ar (wf hA (gi 3 []) Z Z Z)
   refine rn 3 Z <| gs 41 au Z Z Z (fun av => ?_) (fun aw => ?_)
   .exact rl Z <| AL av (wf hA (gi 3 []) Z Z Z)
   refine rn 4 Z <| sx Z (ACn (KB e.a e.b) Z Z Z Z Z <| rn 2 Z <| gs 48 aw Z Z Z (fun ax => ?_) (fun ay => ?_))
   .exact rl Z <| AL ax (wf hA (gi 3 []) Z Z Z)
   refine rn 3 Z <| bq ay fun bj s az => sx Z (AM (M9 _ _ _ s) (.inl Z) Z Z Z <| rn 3 Z <| gs 55 az Z Z Z (fun a0 => ?_) (fun a1 => ?_))
   .exact rl Z <| AL a0 (wf hA (gi 3 []) Z Z Z)
   exact rn 3 Z <| bq a1 fun bk t a2 => sx Z (AM (M9 _ _ _ t) (.inl Z) Z Z Z <| rl Z <| AL a2 (wf hA (gi 3 []) Z Z Z))
  refine cd Z a3 (fun a4 => ?_) (fun a6 => ?_)
  .refine rs AA <| rl Z <| AF <| AG <| AQ <| AG <| A3 a4 fun be a5 => AQ <| AG ?_
   cases a5
   exact er Z (Le.tup' (.cons Le.nilm (.cons Le.rfl .nil)))
  refine AE <| AC ?_
  refine B0 AA mixed [0, 1, 2, 3, 4, 5, 6, 7, 8, 9, 10, 11] 12 (by kernel_rfl) Z Z Z ?_
  exact Au 10 Z <| As Z (Al Z (G7 (et := 40) (ke := (fun x => .agg (AW x))) (ve := (fun x => .agg (AW x))) (mp := d.2) (y := e.a) (z := e.b) CN Z Z Z Z Z Z <| As Z (Al Z (G7 (et := 40) (ke := (fun x => .agg (AW x))) (ve := (fun x => .agg (AW x))) (mp := A1 e.a e.b d.2) (y := e.b) (z := e.a) CN Z Z Z Z Z Z <| BK Z <| Ad <| AC <| rg AA <| rl Z <| Aq a6 (wf hA [(0, 0), (1, 1)] Z Z Z)))))
 refine AT <| AZ <| CF a7 fun l a8 => An <| AC <| AB <| rs AA <| rn 2 Z <| sx Z (Ae Z Z <| rl Z <| AH ?_)
 apply lp (a := l) (fun f : Int => ⟨105, [(1, .lpb 0 0), (4, .lmap 1), (74, ls 3 CE c.elems), (75, li (c.elems.length : Int)), (76, li f)], [(0, bx (AN c)), (1, .map (Ao (fun x => .agg (AW x)) (fun x => .agg (AW x)) d.2))], 2⟩) a8
 . exact wf hA [(0, 0), (1, 1)] Z Z Z
 intro f m j
 unfold DT at j
 refine rs AA <| rl Z <| AB <| cd Z j (fun u => ?_) (fun am => ?_)
 .refine AE <| AC ?_
  apply jn (a := m) (fun a9 : Unit => ⟨105, [(1, .lpb 0 0), (4, .lmap 1), (74, ls 3 CE c.elems), (75, li (c.elems.length : Int)), (76, li f)], [(0, bx (AN c)), (1, .map (Ao (fun x => .agg (AW x)) (fun x => .agg (AW x)) d.2))], 2⟩) u
  .intro bf v
   refine AH <| rs AA <| rn 1 Z <| bq v fun bh n w => sx Z (Ab n Z Z Z <| rl Z <| AB <| rs AA <| rl Z <| cd Z w (fun aa => ?_) (fun ab => ?_))
   .exact AT <| AZ <| An <| Aq aa (wf hA [(0, 0), (1, 1)] Z Z Z)
   refine AE <| AC <| rs AA <| rn 3 Z <| sx Z (KR (et := 40) (ke := (fun x => .agg (AW x))) (ve := (fun x => .agg (AW x))) (mp := d.2) (y := (⟨f, 0⟩ : AI)) (⟨0, 0⟩ : AI) CN Z Z Z Z <| rl Z <| jb (fun g : Bool => ⟨105, [(1, .lpb 0 0), (4, .lmap 1), (74, ls 3 CE c.elems), (75, li (c.elems.length : Int)), (76, li f), (102, lb g)], [(0, bx (AN c)), (1, .map (Ao (fun x => .agg (AW x)) (fun x => .agg (AW x)) d.2))], 2⟩) ab (fun g ac => ?_) (fun g ag => ?_))
   .refine rg AA <| rn 3 Z <| gs 93 ac Z Z Z (fun ad => ?_) (fun ae => ?_)
    .exact rl Z <| AL ad (wf hA [(0, 0), (1, 1)] Z Z Z)
    exact rn 4 Z <| bq ae fun bi o af => sx Z (Ab o Z Z Z <| rl Z <| AL af (wf hA [(0, 0), (1, 1)] Z Z Z))
   refine cd Z ag (fun ah => ?_) (fun ak => ?_)
   .refine rs AA <| rl Z <| AF <| AQ <| A3 ah fun ba ai => A3 ai fun bb aj => AQ <| AG ?_
    cases aj
    exact er Z (Le.tup' (.cons Le.nilm (.cons Le.rfl .nil)))
   exact AE <| Ad <| Aq ak (wf hA [(0, 0), (1, 1)] Z Z Z)
  intro a9 al
  exact rg AA <| rl Z <| Aq al (wf hA [(0, 0), (1, 1)] Z Z Z)
 refine AT <| AZ <| BG am fun bc an => An <| AC <| rs AA <| rl Z <| AF ?_
 cases an
 exact er (VE Z (.cons (.one (.map Z)) (.cons (.one (.p _)) .nil))) Le.rfl
noncomputable def C9 (b : AK) (c : (Int × (List (AI × Bool)))) (a : Int) : Option (Int ⊕ Bool) :=
 bif decide (a < (b.elems.length : Int)) then (AY b.elems a).bind fun e => ((bif (e.kind == 4) then some (!((Am c.2 (⟨a, 0⟩ : AI)).getD false)) else some false : Option (Bool))).bind fun (d : Bool) => bif d then some (.inr false) else some (.inl (AP (a + 1))) else some (.inr true)
noncomputable def D3 (b : AK) (d : (List (AI × AI))) (a : Int × (List (AI × Bool))) : Option ((Int × (List (AI × Bool))) ⊕ Bool) :=
 bif decide (a.1 < (b.signals.length : Int)) then (AY b.signals a.1).bind fun c => (((Gx b c.at_).bind fun j => bif (!j) then some true else some ((Am a.2 c.at_).getD false) : Option (Bool))).bind fun (g : Bool) => bif g then some (.inr false) else (AY b.elems c.at_.elem).bind fun e => ((bif (e.kind != 1) then some (e.kind != 4) else some false : Option (Bool))).bind fun (h : Bool) => bif h then some (.inr false) else ((bif (!(Am d c.at_).isSome) then some true else (AY b.elems (((Am d c.at_).getD (⟨0, 0⟩ : AI)).elem)).bind fun i => some (i.kind == 4) : Option (Bool))).bind fun (f : Bool) => bif f then some (.inr false) else some (.inl (AP (a.1 + 1), A1 c.at_ true a.2)) else (AO (C9 b a) 0).map .inr
noncomputable def F1 (a : AK) (b : (List (AI × AI))) : Option Bool :=
 AO (D3 a b) (0, [])
theorem TH (b : AK) (d : (List (AI × AI))) (r : Bool) (h : F1 b d = some r) : Aw Tryz.prog 133 [.agg (AN b), .map (Ao (fun x => .agg (AW x)) (fun x => .agg (AW x)) d)] (· = .bool r) := by
 refine fn AA Tryz.func133 Z Z 88 Z [.tmp 4] Z [(0, .p (.agg (AN b))), (1, .p (.map (Ao (fun x => .agg (AW x)) (fun x => .agg (AW x)) d)))] Z Z fun A hA => ?_
 unfold F1 at h
 refine rs AA <| rl Z <| rs AA <| rl Z <| AB <| rs AA <| rn 2 Z <| sx Z (Ae Z Z <| rl Z <| AH ?_)
 apply lp (a := r) (fun c : (Int × (List (AI × Bool))) => ⟨88, [(1, .p (.map (Ao (fun x => .agg (AW x)) (fun x => .agg (AW x)) d))), (2, .lpb 0 0), (5, .lmap 1), (15, ls 4 BY b.signals), (16, li (b.signals.length : Int)), (17, li c.1)], [(0, bx (AN b)), (1, .map (Ao (fun x => .agg (AW x)) .bool c.2))], 2⟩) h
 . exact wf hA [(0, 0), (1, 1)] Z Z Z
 intro c bk m
 unfold D3 at m
 refine rs AA <| rl Z <| AB <| cd Z m (fun av => ?_) (fun ag => ?_)
 .refine AE <| AC <| AB <| AH <| rs AA <| bq av fun e s aw => sx Z (Ab s Z Z Z <| rl Z <| AB <| jb (fun j : Bool => ⟨88, [(1, .p (.map (Ao (fun x => .agg (AW x)) (fun x => .agg (AW x)) d))), (2, .lpb 0 0), (5, .lmap 1), (7, .lpb 2 0), (15, ls 4 BY b.signals), (16, li (b.signals.length : Int)), (17, li c.1), (31, lb j)], [(0, bx (AN b)), (1, .map (Ao (fun x => .agg (AW x)) .bool c.2)), (2, bx (BY e))], 3⟩) aw (fun j ax => ?_) (fun j a1 => ?_))
  .refine rg AA <| rn 3 Z <| bq ax fun bn t ay => sx Z (AM (M9 _ _ _ t) (.inl Z) Z Z Z <| rn 2 Z <| gs 26 ay Z Z Z (fun az => ?_) (fun a0 => ?_))
   .exact rl Z <| AL az (wf hA (gi 3 []) Z Z Z)
   exact rn 3 Z <| sx Z (La (et := 4) (ke := (fun x => .agg (AW x))) (ve := .bool) (mp := c.2) (y := e.at_) false CN Z Z Z Z <| rl Z <| AL a0 (wf hA (gi 3 []) Z Z Z))
  refine cd Z a1 (fun a2 => ?_) (fun a4 => ?_)
  .refine rs AA <| rl Z <| AF <| AG <| AQ <| AG <| A3 a2 fun bh a3 => AQ <| AG ?_
   cases a3
   exact er Z Le.rfl
  refine AE <| AC <| AB <| rs AA <| rn 5 Z <| bq a4 fun bo u a5 => sx Z (Ab u Z Z Z <| rl Z <| jb (fun k : Bool => ⟨88, [(1, .p (.map (Ao (fun x => .agg (AW x)) (fun x => .agg (AW x)) d))), (2, .lpb 0 0), (5, .lmap 1), (7, .lpb 2 0), (15, ls 4 BY b.signals), (16, li (b.signals.length : Int)), (17, li c.1), (45, lb k)], [(0, bx (AN b)), (1, .map (Ao (fun x => .agg (AW x)) .bool c.2)), (2, bx (BY e))], 3⟩) a5 (fun k a6 => ?_) (fun k a9 => ?_))
  .refine rg AA <| rn 3 Z <| gs 42 a6 Z Z Z (fun a7 => ?_) (fun a8 => ?_)
   .exact rl Z <| AL a7 (wf hA (gi 3 []) Z Z Z)
   exact rl Z <| AL a8 (wf hA (gi 3 []) Z Z Z)
  refine cd Z a9 (fun ba => ?_) (fun bc => ?_)
  .refine rs AA <| rl Z <| AF <| AG <| AQ <| AG <| A3 ba fun bi bb => AQ <| AG ?_
   cases bb
   exact er Z Le.rfl
  refine AE <| AC <| rs AA <| rn 3 Z <| sx Z (KR (et := 40) (ke := (fun x => .agg (AW x))) (ve := (fun x => .agg (AW x))) (mp := d) (y := e.at_) (⟨0, 0⟩ : AI) CN Z Z Z Z <| rl Z <| AB <| jb (fun g : Bool => ⟨88, [(1, .p (.map (Ao (fun x => .agg (AW x)) (fun x => .agg (AW x)) d))), (2, .lpb 0 0), (5, .lmap 1), (7, .lpb 2 0), (15, ls 4 BY b.signals), (16, li (b.signals.length : Int)), (17, li c.1), (64, lb g)], [(0, bx (AN b)), (1, .map (Ao (fun x => .agg (AW x)) .bool c.2)), (2, bx (BY e))], 3⟩) bc (fun g v => ?_) (fun g ac => ?_))
  .refine rg AA <| rn 3 Z <| gs 55 v Z Z Z (fun w => ?_) (fun aa => ?_)
   .exact rl Z <| AL w (wf hA (gi 3 []) Z Z Z)
   exact rn 4 Z <| bq aa fun bl o ab => sx Z (Ab o Z Z Z <| rl Z <| AL ab (wf hA (gi 3 []) Z Z Z))
  refine cd Z ac (fun ad => ?_) (fun af => ?_)
  .refine rs AA <| rl Z <| AF <| AG <| AQ <| AG <| A3 ad fun be ae => AQ <| AG ?_
   cases ae
   exact er Z Le.rfl
  exact AE <| AC <| rg AA <| rn 3 Z <| sx Z (G7 (et := 4) (ke := (fun x => .agg (AW x))) (ve := .bool) (mp := c.2) (y := e.at_) (z := true) CN Z Z Z Z Z Z <| rl Z <| Ad <| AC <| rg AA <| rl Z <| Aq af (wf hA [(0, 0), (1, 1)] Z Z Z))
 refine AT <| AZ <| CF ag fun n ah => An <| AC <| AB <| rs AA <| rn 2 Z <| sx Z (Ae Z Z <| rl Z <| AH ?_)
 apply lp (a := n) (fun f : Int => ⟨88, [(5, .lmap 0), (70, ls 3 CE b.elems), (71, li (b.elems.length : Int)), (72, li f)], [(0, .map (Ao (fun x => .agg (AW x)) .bool c.2))], 1⟩) ah
 . exact wf hA [(0, 1)] Z Z Z
 intro f bj l
 unfold C9 at l
 refine rs AA <| rl Z <| AB <| cd Z l (fun ai => ?_) (fun ar => ?_)
 .refine AE <| AC <| AB <| AH <| rs AA <| rn 1 Z <| bq ai fun bm q aj => sx Z (Ab q Z Z Z <| rl Z <| jb (fun i : Bool => ⟨88, [(5, .lmap 0), (70, ls 3 CE b.elems), (71, li (b.elems.length : Int)), (72, li f), (86, lb i)], [(0, .map (Ao (fun x => .agg (AW x)) .bool c.2))], 1⟩) aj (fun i ak => ?_) (fun i an => ?_))
  .refine rg AA <| rn 4 Z <| gs 80 ak Z Z Z (fun al => ?_) (fun am => ?_)
   .exact rn 3 Z <| sx Z (La (et := 4) (ke := (fun x => .agg (AW x))) (ve := .bool) (mp := c.2) (y := (⟨f, 0⟩ : AI)) false CN Z Z Z Z <| rl Z <| AL al (wf hA [(0, 0)] Z Z Z))
   exact rl Z <| AL am (wf hA [(0, 0)] Z Z Z)
  refine cd Z an (fun ao => ?_) (fun aq => ?_)
  .refine rs AA <| rl Z <| AF <| AQ <| AG <| A3 ao fun bf ap => AQ <| AG ?_
   cases ap
   exact er Z Le.rfl
  exact AE <| Ad <| AC <| rg AA <| rl Z <| Aq aq (wf hA [(0, 0)] Z Z Z)
 refine AT <| AZ <| BG ar fun bg au => An <| AC <| rs AA <| rl Z <| AF ?_
 cases au
 exact er Z Le.rfl
noncomputable def E6 (b : (List Int)) (c : (List (AI × AI))) (a : Int × Int) : Option ((Int × Int) ⊕ Bool) :=
 bif decide (a.2 < (b.length : Int)) then (AY b (AP (a.2 - 1))).bind fun d => ((bif (!(Am c (⟨d, a.1⟩ : AI)).isSome) then some true else (AY b a.2).bind fun f => some ((((Am c (⟨d, a.1⟩ : AI)).getD (⟨0, 0⟩ : AI)).elem) != f) : Option (Bool))).bind fun (e : Bool) => bif e then some (.inr false) else some (.inl (AP (1 - (((Am c (⟨d, a.1⟩ : AI)).getD (⟨0, 0⟩ : AI)).fin)), AP (a.2 + 1))) else some (.inr true)
noncomputable def Dy (b : (List Int)) (c : (List (AI × AI))) (a : Int × Int) : Option ((Int × Int) ⊕ Bool) :=
 bif decide (0 <= a.2) then (((AY b 0).bind fun d => ((bif (Am c (⟨d, a.2⟩ : AI)).isSome then (AY b 1).bind fun g => some ((((Am c (⟨d, a.2⟩ : AI)).getD (⟨0, 0⟩ : AI)).elem) == g) else some false : Option (Bool))).bind fun (f : Bool) => bif f then some a.2 else some a.1 : Option (Int))).bind fun (e : Int) => some (.inl (e, AP (a.2 - 1))) else (bif decide (a.1 < 0) then some false else AO (E6 b c) (a.1, 1)).map .inr
noncomputable def Jj (a : (List Int)) (b : (List (AI × AI))) : Option Bool :=
 bif decide ((a.length : Int) < 2) then some true else AO (Dy a b) ((-1), 1)
theorem YE (c : (List Int)) (b : (List (AI × AI))) (r : Bool) (h : Jj c b = some r) : Aw Tryz.prog 160 [.slice 1 (c.map Aa), .map (Ao (fun x => .agg (AW x)) (fun x => .agg (AW x)) b)] (· = .bool r) := by
 refine fn AA Tryz.func160 Z Z 73 Z [.tmp 4] Z [(0, .p (.slice 1 (c.map Aa))), (1, .p (.map (Ao (fun x => .agg (AW x)) (fun x => .agg (AW x)) b)))] Z Z fun A hA => ?_
 unfold Jj at h
 refine rs AA <| rl Z <| AB <| rs AA <| rn 1 Z <| sx Z (Ae Z Z <| rl Z <| cd Z h (fun ak => ?_) (fun al => ?_))
 .refine rs AA <| rl Z <| AF <| AG ?_
  cases ak
  exact er Z Le.rfl
 refine AE <| AC <| rs AA <| rl Z <| AB <| rs AA <| rl Z <| AH ?_
 apply lp (a := r) (fun d : (Int × Int) => ⟨73, [(0, ls 1 Aa c), (1, .p (.map (Ao (fun x => .agg (AW x)) (fun x => .agg (AW x)) b))), (5, li d.1), (6, li d.2)], [], 0⟩) al
 . exact wf hA [] Z Z Z
 intro d a3 k
 unfold Dy at k
 refine AB <| rs AA <| rl Z <| cd Z k (fun t => ?_) (fun ag => ?_)
 .refine AE <| AC <| jb (fun f : Int => ⟨73, [(0, ls 1 Aa c), (1, .p (.map (Ao (fun x => .agg (AW x)) (fun x => .agg (AW x)) b))), (5, li f), (6, li d.2)], [], 0⟩) t (fun f u => ?_) (fun f af => ?_)
  .refine AH <| rs AA <| rn 2 Z <| bq u fun a0 n v => sx Z (Ab n Z Z Z <| rn 3 Z <| sx Z (KR (et := 40) (ke := (fun x => .agg (AW x))) (ve := (fun x => .agg (AW x))) (mp := b) (y := (⟨a0, d.2⟩ : AI)) (⟨0, 0⟩ : AI) CN Z Z Z Z <| rl Z <| jb (fun g : Bool => ⟨73, [(0, ls 1 Aa c), (1, .p (.map (Ao (fun x => .agg (AW x)) (fun x => .agg (AW x)) b))), (5, li d.1), (6, li d.2), (37, lb g)], [], 0⟩) v (fun g w => ?_) (fun g ac => ?_)))
   .refine B0 AA mixed [0, 1, 2, 3, 4, 5, 6, 7, 8] 9 (by kernel_rfl) Z Z Z ?_
    refine Au 2 Z <| Ec 30 w Z Z Z (fun z => ?_) (fun ab => ?_)
    .exact Au 3 Z <| bq z fun a5 o aa => As Z (Al Z (Ab o Z Z Z <| BK Z <| AL aa (wf hA [] Z Z Z)))
    exact BK Z <| AL ab (wf hA [] Z Z Z)
   refine cd Z ac (fun ad => ?_) (fun ae => ?_)
   .exact rg AA <| rl Z <| Ad <| AL ad (wf hA [] Z Z Z)
   exact AE <| Ad <| AL ae (wf hA [] Z Z Z)
  exact rg AA <| rl Z <| Aq af (wf hA [] Z Z Z)
 refine AT <| AZ <| CF ag fun m ah => An <| AC <| AB <| rs AA <| rl Z <| cd Z ah (fun ai => ?_) (fun aj => ?_)
 .refine rs AA <| rl Z <| AF <| AG ?_
  cases ai
  exact er Z Le.rfl
 refine AE <| AC <| AB <| rs AA <| rl Z <| AH ?_
 apply lp (a := m) (fun e : (Int × Int) => ⟨73, [(0, ls 1 Aa c), (1, .p (.map (Ao (fun x => .agg (AW x)) (fun x => .agg (AW x)) b))), (5, li e.1), (9, li e.2)], [], 0⟩) aj
 . exact wf hA [] Z Z Z
 intro e a4 l
 unfold E6 at l
 refine AB <| rs AA <| rn 2 Z <| sx Z (Ae Z Z <| rl Z <| cd Z l (fun am => ?_) (fun ay => ?_))
 .refine AE <| AC <| AB <| AH <| rs AA <| rn 4 Z <| bq am fun j q an => sx Z (Ab q Z Z Z <| rn 3 Z <| sx Z (KR (et := 40) (ke := (fun x => .agg (AW x))) (ve := (fun x => .agg (AW x))) (mp := b) (y := (⟨j, e.1⟩ : AI)) (⟨0, 0⟩ : AI) CN Z Z Z Z <| rl Z <| AB <| jb (fun i : Bool => ⟨73, [(0, ls 1 Aa c), (1, .p (.map (Ao (fun x => .agg (AW x)) (fun x => .agg (AW x)) b))), (9, li e.2), (10, .lpb 0 0), (69, lb i)], [(0, .box [li (((Am b (⟨j, e.1⟩ : AI)).getD (⟨0, 0⟩ : AI)).elem), li (((Am b (⟨j, e.1⟩ : AI)).getD (⟨0, 0⟩ : AI)).fin)])], 1⟩) an (fun i ao => ?_) (fun i au => ?_)))
  .refine B0 AA mixed [0, 1, 2, 3, 4, 5, 6, 7, 8, 9, 10] 11 (by kernel_rfl) Z Z Z ?_
   refine Au 3 Z <| Ec 61 ao Z Z Z (fun ap => ?_) (fun aq => ?_)
   .exact BK Z <| AL ap (wf hA [(0, 0)] Z Z Z)
   exact Au 4 Z <| bq aq fun a6 s ar => As Z (Al Z (Ab s Z Z Z <| BK Z <| AL ar (wf hA [(0, 0)] Z Z Z)))
  refine cd Z au (fun av => ?_) (fun ax => ?_)
  .refine rs AA <| rl Z <| AF <| AG <| AQ <| AG <| A3 av fun a1 aw => AQ <| AG ?_
   cases aw
   exact er Z Le.rfl
  exact AE <| AC <| rg AA <| rl Z <| Ad <| AC <| rg AA <| rl Z <| Aq ax (wf hA [] Z Z Z)
 refine AT <| AZ <| BG ay fun a2 az => An <| AC <| rs AA <| rl Z <| AF ?_
 cases az
 exact er Z Le.rfl
noncomputable def FF (d : AK) (g : (List (AI × AI))) (e : (Int × (List (Int × Bool)))) (c : CG) (a : Int × (List (Int × Bool))) : Option ((Int × (List (Int × Bool))) ⊕ ((Int × (List (Int × Bool))) ⊕ Bool)) :=
 bif decide (a.1 < (c.elems.length : Int)) then (AY c.elems a.1).bind fun b => ((bif decide (b < 0) then some true else bif decide ((d.elems.length : Int) <= b) then some true else (AY d.elems b).bind fun h => bif (h.kind != 1) then some true else some ((Am a.2 b).getD false) : Option (Bool))).bind fun (f : Bool) => bif f then some (.inr (.inr false)) else some (.inl (AP (a.1 + 1), A1 b true a.2)) else ((Jj c.elems g).bind fun i => bif (!i) then some (.inr false) else some (.inl (AP (e.1 + 1), a.2))).map .inr
noncomputable def FG (b : AK) (d : (List (AI × AI))) (a : Int × (List (Int × Bool))) : Option ((Int × (List (Int × Bool))) ⊕ Bool) :=
 bif decide (a.1 < (b.lines.length : Int)) then (AY b.lines a.1).bind fun c => bif ((c.elems.length : Int) == 0) then some (.inr false) else AO (FF b d a c) (0, a.2) else some (.inr true)
noncomputable def Ha (a : AK) (b : (List (AI × AI))) : Option Bool :=
 AO (FG a b) (0, [])
theorem VR (b : AK) (e : (List (AI × AI))) (r : Bool) (h : Ha b e = some r) : Aw Tryz.prog 134 [.agg (AN b), .map (Ao (fun x => .agg (AW x)) (fun x => .agg (AW x)) e)] (· = .bool r) := by
 refine fn AA Tryz.func134 Z Z 61 Z [.tmp 4] Z [(0, .p (.agg (AN b))), (1, .p (.map (Ao (fun x => .agg (AW x)) (fun x => .agg (AW x)) e)))] Z Z fun A hA => ?_
 unfold Ha at h
 refine rs AA <| rl Z <| rs AA <| rl Z <| AB <| rs AA <| rn 2 Z <| sx Z (Ae Z Z <| rl Z <| AH ?_)
 apply lp (a := r) (fun f : (Int × (List (Int × Bool))) => ⟨61, [(1, .p (.map (Ao (fun x => .agg (AW x)) (fun x => .agg (AW x)) e))), (2, .lpb 0 0), (5, .lmap 1), (12, ls 2 BZ b.lines), (13, li (b.lines.length : Int)), (14, li f.1)], [(0, bx (AN b)), (1, .map (Ao (.int .i64) .bool f.2))], 2⟩) h
 . exact wf hA [(0, 0), (1, 1)] Z Z Z
 intro f l j
 unfold FG at j
 refine rs AA <| rl Z <| AB <| cd Z j (fun s => ?_) (fun ax => ?_)
 .refine AE <| AC <| AB <| AH <| rs AA <| bq s fun c m t => sx Z (Ab m Z Z Z <| rl Z <| AB <| rs AA <| rn 2 Z <| sx Z (Ae Z Z <| rl Z <| cd Z t (fun u => ?_) (fun w => ?_)))
  .refine rs AA <| rl Z <| AF <| AG <| AQ <| AG <| A3 u fun az v => AQ <| AG ?_
   cases v
   exact er Z Le.rfl
  refine AE <| AC <| AB <| rs AA <| rn 2 Z <| sx Z (Ae Z Z <| rl Z <| AH ?_)
  apply lp (a := l) (fun d : (Int × (List (Int × Bool))) => ⟨61, [(1, .p (.map (Ao (fun x => .agg (AW x)) (fun x => .agg (AW x)) e))), (2, .lpb 0 0), (5, .lmap 1), (7, .lpb 2 0), (12, ls 2 BZ b.lines), (13, li (b.lines.length : Int)), (14, li f.1), (23, ls 1 Aa c.elems), (24, li (c.elems.length : Int)), (25, li d.1)], [(0, bx (AN b)), (1, .map (Ao (.int .i64) .bool d.2)), (2, .box [.p (.str c.name), ls 1 Aa c.elems])], 3⟩) w
  . exact wf hA (gi 3 []) Z Z Z
  intro d a5 k
  unfold FF at k
  refine rs AA <| rl Z <| AB <| cd Z k (fun aa => ?_) (fun ap => ?_)
  .refine AE <| AC <| AB <| AH <| rs AA <| bq aa fun i n ab => sx Z (Ab n Z Z Z <| rl Z <| AB <| jb (fun g : Bool => ⟨61, [(1, .p (.map (Ao (fun x => .agg (AW x)) (fun x => .agg (AW x)) e))), (2, .lpb 0 0), (5, .lmap 1), (7, .lpb 2 0), (9, li i), (12, ls 2 BZ b.lines), (13, li (b.lines.length : Int)), (14, li f.1), (23, ls 1 Aa c.elems), (24, li (c.elems.length : Int)), (25, li d.1), (51, lb g)], [(0, bx (AN b)), (1, .map (Ao (.int .i64) .bool d.2)), (2, .box [.p (.str c.name), ls 1 Aa c.elems])], 3⟩) ab (fun g ac => ?_) (fun g ak => ?_))
   .refine rg AA <| rn 3 Z <| gs 31 ac Z Z Z (fun ad => ?_) (fun ae => ?_)
    .exact rl Z <| AL ad (wf hA (gi 3 []) Z Z Z)
    refine rn 3 Z <| sx Z (Ae Z Z <| rn 3 Z <| gs 38 ae Z Z Z (fun af => ?_) (fun ag => ?_))
    .exact rl Z <| AL af (wf hA (gi 3 []) Z Z Z)
    refine rn 3 Z <| bq ag fun a6 o ah => sx Z (Ab o Z Z Z <| rn 5 Z <| gs 47 ah Z Z Z (fun ai => ?_) (fun aj => ?_))
    .exact rl Z <| AL ai (wf hA (gi 3 []) Z Z Z)
    exact rn 2 Z <| sx Z (La (et := 4) (ke := (.int .i64)) (ve := .bool) (mp := d.2) (y := i) false Gd Z Z Z Z <| rl Z <| AL aj (wf hA (gi 3 []) Z Z Z))
   refine cd Z ak (fun al => ?_) (fun ao => ?_)
   .refine rs AA <| rl Z <| AF <| AG <| AQ <| AG <| A3 al fun a0 am => AQ <| AG <| AQ <| AG <| A3 am fun a1 an => AQ <| AG ?_
    cases an
    exact er Z Le.rfl
   exact AE <| AC <| rg AA <| rn 2 Z <| sx Z (G7 (et := 4) (ke := (.int .i64)) (ve := .bool) (mp := d.2) (y := i) (z := true) Gd Z Z Z Z Z Z <| rl Z <| Ad <| AC <| rg AA <| rl Z <| Aq ao (wf hA (gi 3 []) Z Z Z))
  refine AT <| AZ <| CF ap fun a2 aq => An <| AC <| rs AA <| rn 3 Z <| bq aq fun a7 q ar => sx Z (AM (YE _ _ _ q) (.inl Z) Z Z Z <| rl Z <| cd Z ar (fun au => ?_) (fun aw => ?_))
  .refine rs AA <| rl Z <| AF <| AQ <| AG <| A3 au fun a3 av => AQ <| AG ?_
   cases av
   exact er Z Le.rfl
  exact AE <| Ad <| AC <| rg AA <| rl Z <| Aq aw (wf hA [(0, 0), (1, 1)] Z Z Z)
 refine AT <| AZ <| BG ax fun a4 ay => An <| AC <| rs AA <| rl Z <| AF ?_
 cases ay
 exact er Z Le.rfl
end Go.E
